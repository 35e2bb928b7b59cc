/- Contracts: the member of a statement, by the program and by the reference. And more. -/
import Derived.Test.YtgdngfdeeadlnaaGreatDoorY38
import Derived.Test.YtgdngfdeeadlnaaGreatDoorY05
import Derived.Lib.SliceRun
import Derived.Deep.Onto
import Derived.Test.YtgdngfdeeadlnaaGreatDoorY01
import Derived.Lib.AtoiAll
import Derived.Lib.ItoaNum
import Derived.Test.YtgdngfdeeadlnaaGreatDoorY17
import Derived.Test.YtgdngfdeeadlnaaGreatDoorY07
set_option linter.unusedVariables false
set_option linter.unusedSimpArgs false
namespace Go.Proofs.YtgdngfdeeadlnaaGreatDoor
open Go.RowKit Num
theorem AnssAt.reads {w : World} {S : Nat → Prop} {B : Nat} {A : Option Addr} {n c : Nat} {L : List Ans} (h : AnssAt w S (.slice A n c) L) (hS : ∀ b,S b → b < B) : Reads w B 3 A n (ansC L) := by
 obtain ⟨A',n',c',hv,h2,h3,h4⟩:=h
 injection hv with e1 e2 e3
 subst e1 e2 e3
 refine ⟨by rw [ansC_len,h2],fun hn => ?_⟩
 obtain ⟨b,off,rfl,hb,hc⟩:=h4 hn
 refine ⟨_,rfl,hS b hb,fun j u hu => ?_⟩
 have hj:j < L.length*3:=by
  rcases Nat.lt_or_ge j (L.length*3) with h | h
  ·exact h
  ·rw [List.getElem?_eq_none (by rw [ansC_len]; exact h)] at hu; cases hu
 have ha:(⟨b,off,none⟩:Addr).add j=⟨b,off+j,none⟩:=by unfold Addr.add; split <;> simp_all
 rw [ha]
 obtain ⟨a0,a1,a2⟩:=ansC_at L (j / 3) (by omega)
 obtain ⟨c0,c1,c2⟩:=hc (j / 3) (by omega)
 rcases (show j=j / 3*3 ∨ j=j / 3*3+1 ∨ j=j / 3*3+2 by omega) with e | e | e
 ·rw [e,a0] at hu; rw [e]; exact c0.trans hu
 ·rw [e,a1] at hu; rw [e,← Nat.add_assoc]; exact c1.trans hu
 ·rw [e,a2] at hu; rw [e,← Nat.add_assoc]; exact c2.trans hu
def CpyQ (e0 : TypeId) (s n : Nat) (xs : List Value) (w : World) (e : Ending) (w' : World) : Prop := ∃ v,e = .returned v ∧ w'.ownsRow w.heap.size e0 s v n xs ∧ Below w.heap.size w w'
set_option maxRecDepth 100000 in
set_option maxHeartbeats 1000000 in
theorem s_CloneA (A : Option Addr) (n c : Nat) (L : List Ans) (S : Nat → Prop) (w : World) (hv : AnssAt w S (.slice A n c) L) (hS : ∀ b,S b → b < w.heap.size) (hl : L.length ≤ 1000000) :
  Calls Tryz.prog 39 #[.slice A n c] w (CpyQ 50 3 L.length (ansC L) w):=by
 obtain ⟨i0,hi,hz0,hz1,hz2⟩:=info_parts infoAn
 obtain ⟨A',n',c',he,hn,hnc,hc⟩:=id hv
 injection he with e1 e2 e3
 subst e1 e2 e3
 have hrd:=hv.reads (B:=w.heap.size) hS
 have HRD:=Lib.hid hrd
 have HN:=Lib.hid hn
 have hn1:n ≤ 1000000:=by omega
 clear hv hrd hn
 have q22:=fun (W:World) => Lib.run_eql_slice_nil (P:=Tryz.prog) W 23 50 A n c 0 0 Tryz.underlying23
 cases A with
 | none =>
  have hn0:n=0:=by
   rcases Nat.eq_zero_or_pos n with h | h
   ·exact h
   ·obtain ⟨b,off,hA,_⟩:=hc h; cases hA
  subst hn0
  clear hc
  go_enter Tryz.func39,Tryz.ntmps39
  go_wp2_with fail
  go_ret
  have hx:L = []:=List.eq_nil_of_length_eq_zero HN.out.symm
  subst hx
  exact ⟨_,rfl,World.ownsRow_nil _ _ _ _,Below.refl _ _⟩
 | some ad =>
  clear hc
  go_enter Tryz.func39,Tryz.ntmps39
  go_wp2_with (at_builtin; refine wpList_append_any _ rfl _ _ 23 rfl w.heap.size 50 i0 (.agg #[.string ⟨#[]⟩,.string ⟨#[]⟩,.int .i64 0]) 3 40 Tryz.underlying23 hi hz0 hz1 hz2 rfl (by decide) (.slice (some ⟨w.heap.size,0,none⟩) 0 0) 0 [] rfl (World.ownsRow_lit w #[] 0 (Nat.le_refl _) (by simp only [maxLen]; omega) rfl) w.heap.size (some ad) n c (ansC L) rfl (HRD.out.alloc (Nat.le_refl _) _) (ansC_one L) (by simp only [maxLen]; omega) (by omega) (by simp) ?_)
  intro v' w3 hown' hgrow hloc
  go_wp2_with fail
  go_ret
  refine ⟨_,rfl,?_,?_⟩
  ·rw [← HN.out]
   simpa using hown'
  ·have hg0:w.grownBy w3 (some w.heap.size):=⟨hgrow.os,hgrow.tape,hgrow.output,Nat.le_trans (by simp) hgrow.size,fun i hi hn => (hgrow.block i (by simp; omega) (by simpa [Value.ownBlock] using hn)).trans (Below.heap_alloc w _ i hi)⟩
   exact (Below.refl w.heap.size w).grown hg0 (Nat.le_refl _) (fun g hg => by injection hg with hg; omega)
def memZ : Array Value := #[.string ⟨#[]⟩,.int .i64 0,.int .i64 0,.int .i64 0,.slice none 0 0]
def MbrE (s : Stm) (p : ByteArray) (m : Int) (w : World) (e : Ending) (w' : World) : Prop := ∃ A k c,e = .returned (.agg #[.string p,.int .i64 m,.int .i64 s.dep,.int .i64 s.day,.slice A k c]) ∧ AnssAt w' (fun b => w.heap.size ≤ b ∧ b < w'.heap.size) (.slice A k c) s.ans ∧ Below w.heap.size w w'
theorem mbr_fin {w W : World} {s : Stm} {p : ByteArray} {m : Int} {v : Value} (hb : Below w.heap.size w W) (hr : Blk W (w.heap.size + 1) 45 memZ) (ho : W.ownsRow (w.heap.size + 2) 50 3 v s.ans.length (ansC s.ans)) :
  ∃ A k c,v=.slice A k c ∧ ∀ W2,W2=((((W.setCell ⟨w.heap.size+1,0,none⟩ (.string p)).setCell ⟨w.heap.size+1,1,none⟩ (.int .i64 m)).setCell ⟨w.heap.size+1,2,none⟩ (.int .i64 s.dep)).setCell ⟨w.heap.size+1,3,none⟩ (.int .i64 s.day)).setCell ⟨w.heap.size+1,4,none⟩ v →
   Blk W2 (w.heap.size+1) 45 #[.string p,.int .i64 m,.int .i64 s.dep,.int .i64 s.day,v] ∧ AnssAt W2 (fun b => w.heap.size ≤ b ∧ b < W2.heap.size) v s.ans ∧ Below w.heap.size w W2 ∧ ∀ i,W2.cell? ⟨w.heap.size,i,none⟩=W.cell? ⟨w.heap.size,i,none⟩:=by
 obtain ⟨A,c,rfl⟩:=own_slice ho
 refine ⟨A,_,c,rfl,fun W2 hW2 => ?_⟩
 have hc:Chg W W2 (fun q => q=w.heap.size+1):=by
  rw [hW2]
  exact Chg.setCell (Chg.setCell (Chg.setCell (Chg.setCell (Chg.setCell (Chg.refl W (fun q => q=w.heap.size+1)) ⟨w.heap.size+1,0,none⟩ (fun _ => rfl) _) ⟨w.heap.size+1,1,none⟩ (fun _ => rfl) _) ⟨w.heap.size+1,2,none⟩ (fun _ => rfl) _) ⟨w.heap.size+1,3,none⟩ (fun _ => rfl) _) ⟨w.heap.size+1,4,none⟩ (fun _ => rfl) _
 have hbk:Blk W2 (w.heap.size+1) 45 #[.string p,.int .i64 m,.int .i64 s.dep,.int .i64 s.day,.slice A s.ans.length c]:=by
  rw [hW2]
  exact ((((hr.set_ 0 _).set_ 1 _).set_ 2 _).set_ 3 _).set_ 4 _
 have hs:=hc.size
 have ho':=hb.size
 refine ⟨hbk,((AnssAt.of_own ho).keep fun q hq => hc.block q hq.2 (by omega)).mono fun q hq => ⟨by omega,by omega⟩,⟨hc.os.trans hb.os,hc.tape.trans hb.tape,hc.output.trans hb.output,Nat.le_trans ho' hs,fun q hq => (hc.block q (Nat.lt_of_lt_of_le hq ho') (by omega)).trans (hb.block q hq)⟩,fun i => World.cell?_of_block (w:=W) (a:=⟨w.heap.size,i,none⟩) (hc.block w.heap.size (by have:=hr.lt; omega) (by omega))⟩
set_option maxRecDepth 100000 in
set_option maxHeartbeats 2000000 in
theorem s_Member (s : Stm) (p : ByteArray) (m : Int) (va vc vs : Value) (w : World) (h : StmAt w (· < w.heap.size) va vc vs s) (hl : s.ans.length ≤ 1000000) :
  Calls Tryz.prog 15 #[.agg #[.string s.resp,.int .i64 s.dep,.int .i64 s.day,va,vc,vs],.string p,.int .i64 m] w (MbrE s p m w):=by
 have hmx:Tryz.prog.follows .mixedOrders=true:=by kernel_rfl
 obtain ⟨Aa,n,ca,rfl,-⟩:=id h.aa
 obtain ⟨Ac,nc,cc,rfl,-⟩:=id h.cc
 obtain ⟨As,ns,cs,rfl,-⟩:=id h.ss
 obtain ⟨w2,hw2⟩:∃ w2,(w.alloc (.cells #[.string s.resp,.int .i64 s.dep,.int .i64 s.day,.slice Aa n ca,.slice Ac nc cc,.slice As ns cs] 29)).alloc (.cells #[.string ⟨#[]⟩,.int .i64 0,.int .i64 0,.int .i64 0,.slice none 0 0] 45)=w2:=⟨_,rfl⟩
 have hb2:Below w.heap.size w w2:=by rw [← hw2]; exact ((Below.refl _ _).alloc (Nat.le_refl _) _).alloc (by simp) _
 have hbk:Blk w2 w.heap.size 29 #[.string s.resp,.int .i64 s.dep,.int .i64 s.day,.slice Aa n ca,.slice Ac nc cc,.slice As ns cs]:=by rw [← hw2]; exact (Blk.new w _ _).alloc _
 have hbr:Blk w2 (w.heap.size+1) 45 memZ:=by
  rw [← hw2]
  have:=Blk.new (w.alloc (.cells #[.string s.resp,.int .i64 s.dep,.int .i64 s.day,.slice Aa n ca,.slice Ac nc cc,.slice As ns cs] 29)) 45 #[.string ⟨#[]⟩,.int .i64 0,.int .i64 0,.int .i64 0,.slice none 0 0]
  rwa [World.size_alloc] at this
 have hs2:w2.heap.size=w.heap.size+2:=by rw [← hw2]; simp
 have haa:AnssAt w2.drew (· < w.heap.size) (.slice Aa n ca) s.ans:=h.aa.keep fun b hB => hb2.block b hB
 have held:∀ W,Below w2.heap.size w2 W → W.cell? ⟨w.heap.size,1,none⟩=some (.int .i64 s.dep) ∧ W.cell? ⟨w.heap.size,2,none⟩=some (.int .i64 s.day) ∧ W.cell? ⟨w.heap.size,3,none⟩=some (.slice Aa n ca):=fun W hW => by
  have hk:=hbk.below' hW hbk.lt
  exact ⟨(hk.cell 1).trans rfl,(hk.cell 2).trans rfl,(hk.cell 3).trans rfl⟩
 have HHD:=Lib.hid held
 have HB2:=Lib.hid hb2
 have HBR:=Lib.hid hbr
 have HAA:=Lib.hid haa
 have B_0:Hid (Below w2.heap.size w2 w2.drew):=Lib.hid (Below.refl _ _).drew
 clear held hb2 hbk hbr haa h
 go_enter Tryz.func15,Tryz.ntmps15
 go_upto_region 1 with fail
 try rw [hw2]
 clear hw2
 refine wp_region_held_drew (S:=fun W => W.cell? ⟨w.heap.size,1,none⟩=some (.int .i64 s.dep) ∧ W.cell? ⟨w.heap.size,2,none⟩=some (.int .i64 s.day) ∧ W.cell? ⟨w.heap.size,3,none⟩=some (.slice Aa n ca)) hmx (HHD.out _ B_0.out) (fun hHeld => ?_)
 refine t1 0 rfl ?_
 try simp only [pt]
 refine t1 1 rfl ?_
 try simp only [pt]
 refine t1 2 rfl ?_
 try simp only [pt]
 refine t1 3 rfl ?_
 try simp only [pt]
 refine t1 4 rfl ?_
 try simp only [pt]
 refine t1 5 rfl ?_
 try simp only [pt]
 refine t1 6 rfl ?_
 try simp only [pt]
 refine t1 7 rfl ?_
 try simp only [pt]
 refine wpAnyH_ready (rs:=[8]) (by kernel_rfl) (by simp) ?_
 refine AllReadyH.cons rfl (fun Kc hKc => ?_) AllReadyH.nil
 go_simp
 refine (s_CloneA Aa n ca s.ans (· < w.heap.size) w2.drew HAA.out (fun b hb => by show b < w2.heap.size; omega) hl).mono ?_
 rintro e w3 ⟨v,rfl,hown,hb3⟩
 have B_1:=Lib.hid (B_0.out.trans (hb3.mono B_0.out.size))
 have hfin:=mbr_fin (s:=s) (p:=p) (m:=m) (HB2.out.trans (B_1.out.mono HB2.out.size)) (HBR.out.below' B_1.out HBR.out.lt) (World.ownsRow.mono hown (base':=w.heap.size+2) (by show _ ≤ w2.heap.size; omega))
 have hr:=HBR.out.below' B_1.out HBR.out.lt
 obtain ⟨A,k,c,rfl,hfin⟩:=hfin
 have HF:=Lib.hid hfin
 have r0:=(hr.cell 0).trans (show _=some (Value.string ⟨#[]⟩) from rfl)
 have r1:=(hr.cell 1).trans (show _=some (Value.int .i64 0) from rfl)
 have r2:=(hr.cell 2).trans (show _=some (Value.int .i64 0) from rfl)
 have r3:=(hr.cell 3).trans (show _=some (Value.int .i64 0) from rfl)
 have r4:=(hr.cell 4).trans (show _=some (Value.slice none 0 0) from rfl)
 have g0:=hr.frozen 0
 have g1:=hr.frozen 1
 have g2:=hr.frozen 2
 have g3:=hr.frozen 3
 have g4:=hr.frozen 4
 clear hr hfin hown hb3
 refine hKc.out _ _ (HHD.out _ B_1.out) (fun hHeld => ?_)
 clear hKc Kc
 try simp only [pt]
 refine t1 9 rfl ?_
 try simp only [pt]
 refine wpAnyH_ready (rs:=[10]) (by kernel_rfl) (by simp) ?_
 refine AllReadyH.cons rfl (fun Kc hKc => ?_) AllReadyH.nil
 obtain ⟨hb,hat,hbl,hcl⟩:=HF.out _ rfl
 have HCL:=Lib.hid hcl
 clear hcl
 have HV:=Lib.hid (show MbrE s p m w (.returned (.agg #[.string p,.int .i64 m,.int .i64 s.dep,.int .i64 s.day,.slice A k c])) _ from ⟨A,k,c,rfl,hat,hbl⟩)
 have HBL:=Lib.hid hb
 go_simp
 refine hKc.out _ _ ⟨(HCL.out 1).trans hHeld.1,(HCL.out 2).trans hHeld.2.1,(HCL.out 3).trans hHeld.2.2⟩ (fun hHeld => ?_)
 clear hKc Kc
 try simp only [pt]
 refine wpAnyH_done (by kernel_rfl) ?_ _
 go_wp2_with fail
 have hb:=HBL.out
 refine bodyPost_ret (v:=.agg #[.string p,.int .i64 m,.int .i64 s.dep,.int .i64 s.day,.slice A k c]) ?_ rfl HV.out
 simp [results,Tryz.results15,go_sem,(hb.cell 0).trans (show _=some (Value.string p) from rfl),(hb.cell 1).trans (show _=some (Value.int .i64 m) from rfl),(hb.cell 2).trans (show _=some (Value.int .i64 s.dep) from rfl),(hb.cell 3).trans (show _=some (Value.int .i64 s.day) from rfl),(hb.cell 4).trans (show _=some (Value.slice A k c) from rfl)]
set_option maxRecDepth 100000 in
set_option maxHeartbeats 2000000 in
theorem r_Member (s : Stm) (p : ByteArray) (m : Int) (va vc vs : Value) (w : World) (h : StmAt w (· < w.heap.size) va vc vs s) (hl : s.ans.length ≤ 1000000) :
  Calls Tryz.prog 16 #[.agg #[.string s.resp,.int .i64 s.dep,.int .i64 s.day,va,vc,vs],.string p,.int .i64 m] w (MbrE s p m w):=by
 have hmx:Tryz.prog.follows .mixedOrders=true:=by kernel_rfl
 obtain ⟨Aa,n,ca,rfl,-⟩:=id h.aa
 obtain ⟨Ac,nc,cc,rfl,-⟩:=id h.cc
 obtain ⟨As,ns,cs,rfl,-⟩:=id h.ss
 obtain ⟨w2,hw2⟩:∃ w2,(w.alloc (.cells #[.string s.resp,.int .i64 s.dep,.int .i64 s.day,.slice Aa n ca,.slice Ac nc cc,.slice As ns cs] 29)).alloc (.cells #[.string ⟨#[]⟩,.int .i64 0,.int .i64 0,.int .i64 0,.slice none 0 0] 45)=w2:=⟨_,rfl⟩
 have hb2:Below w.heap.size w w2:=by rw [← hw2]; exact ((Below.refl _ _).alloc (Nat.le_refl _) _).alloc (by simp) _
 have hbk:Blk w2 w.heap.size 29 #[.string s.resp,.int .i64 s.dep,.int .i64 s.day,.slice Aa n ca,.slice Ac nc cc,.slice As ns cs]:=by rw [← hw2]; exact (Blk.new w _ _).alloc _
 have hbr:Blk w2 (w.heap.size+1) 45 memZ:=by
  rw [← hw2]
  have:=Blk.new (w.alloc (.cells #[.string s.resp,.int .i64 s.dep,.int .i64 s.day,.slice Aa n ca,.slice Ac nc cc,.slice As ns cs] 29)) 45 #[.string ⟨#[]⟩,.int .i64 0,.int .i64 0,.int .i64 0,.slice none 0 0]
  rwa [World.size_alloc] at this
 have hs2:w2.heap.size=w.heap.size+2:=by rw [← hw2]; simp
 have haa:AnssAt w2.drew (· < w.heap.size) (.slice Aa n ca) s.ans:=h.aa.keep fun b hB => hb2.block b hB
 have held:∀ W,Below w2.heap.size w2 W → W.cell? ⟨w.heap.size,1,none⟩=some (.int .i64 s.dep) ∧ W.cell? ⟨w.heap.size,2,none⟩=some (.int .i64 s.day) ∧ W.cell? ⟨w.heap.size,3,none⟩=some (.slice Aa n ca):=fun W hW => by
  have hk:=hbk.below' hW hbk.lt
  exact ⟨(hk.cell 1).trans rfl,(hk.cell 2).trans rfl,(hk.cell 3).trans rfl⟩
 have HHD:=Lib.hid held
 have HB2:=Lib.hid hb2
 have HBR:=Lib.hid hbr
 have HAA:=Lib.hid haa
 have B_0:Hid (Below w2.heap.size w2 w2.drew):=Lib.hid (Below.refl _ _).drew
 clear held hb2 hbk hbr haa h
 go_enter Tryz.func16,Tryz.ntmps16
 go_upto_region 1 with fail
 try rw [hw2]
 clear hw2
 refine wp_region_held_drew (S:=fun W => W.cell? ⟨w.heap.size,1,none⟩=some (.int .i64 s.dep) ∧ W.cell? ⟨w.heap.size,2,none⟩=some (.int .i64 s.day) ∧ W.cell? ⟨w.heap.size,3,none⟩=some (.slice Aa n ca)) hmx (HHD.out _ B_0.out) (fun hHeld => ?_)
 refine t1 0 rfl ?_
 try simp only [pt]
 refine t1 1 rfl ?_
 try simp only [pt]
 refine t1 2 rfl ?_
 try simp only [pt]
 refine t1 3 rfl ?_
 try simp only [pt]
 refine t1 4 rfl ?_
 try simp only [pt]
 refine t1 5 rfl ?_
 try simp only [pt]
 refine t1 6 rfl ?_
 try simp only [pt]
 refine t1 7 rfl ?_
 try simp only [pt]
 refine wpAnyH_ready (rs:=[8]) (by kernel_rfl) (by simp) ?_
 refine AllReadyH.cons rfl (fun Kc hKc => ?_) AllReadyH.nil
 refine step_copy_answers (w:=w2.drew) (by rfl) (.const (.slice none 0 0)) _ (by rfl) (by rfl) (· < w.heap.size) Aa n ca s.ans HAA.out (by rfl) hl ?_
 intro v w3 hown hb3
 have B_1:=Lib.hid (B_0.out.trans (hb3.mono B_0.out.size))
 have hfin:=mbr_fin (s:=s) (p:=p) (m:=m) (HB2.out.trans (B_1.out.mono HB2.out.size)) (HBR.out.below' B_1.out HBR.out.lt) (World.ownsRow.mono hown (base':=w.heap.size+2) (by show _ ≤ w2.heap.size; omega))
 have hr:=HBR.out.below' B_1.out HBR.out.lt
 obtain ⟨A,k,c,rfl,hfin⟩:=hfin
 have HF:=Lib.hid hfin
 have r0:=(hr.cell 0).trans (show _=some (Value.string ⟨#[]⟩) from rfl)
 have r1:=(hr.cell 1).trans (show _=some (Value.int .i64 0) from rfl)
 have r2:=(hr.cell 2).trans (show _=some (Value.int .i64 0) from rfl)
 have r3:=(hr.cell 3).trans (show _=some (Value.int .i64 0) from rfl)
 have r4:=(hr.cell 4).trans (show _=some (Value.slice none 0 0) from rfl)
 have g0:=hr.frozen 0
 have g1:=hr.frozen 1
 have g2:=hr.frozen 2
 have g3:=hr.frozen 3
 have g4:=hr.frozen 4
 clear hr hfin hown hb3
 refine hKc.out _ _ (HHD.out _ B_1.out) (fun hHeld => ?_)
 clear hKc Kc
 try simp only [pt]
 refine t1 9 rfl ?_
 try simp only [pt]
 refine wpAnyH_ready (rs:=[10]) (by kernel_rfl) (by simp) ?_
 refine AllReadyH.cons rfl (fun Kc hKc => ?_) AllReadyH.nil
 obtain ⟨hb,hat,hbl,hcl⟩:=HF.out _ rfl
 have HCL:=Lib.hid hcl
 clear hcl
 have HV:=Lib.hid (show MbrE s p m w (.returned (.agg #[.string p,.int .i64 m,.int .i64 s.dep,.int .i64 s.day,.slice A k c])) _ from ⟨A,k,c,rfl,hat,hbl⟩)
 have HBL:=Lib.hid hb
 go_simp
 refine hKc.out _ _ ⟨(HCL.out 1).trans hHeld.1,(HCL.out 2).trans hHeld.2.1,(HCL.out 3).trans hHeld.2.2⟩ (fun hHeld => ?_)
 clear hKc Kc
 try simp only [pt]
 refine wpAnyH_done (by kernel_rfl) ?_ _
 go_wp2_with fail
 have hb:=HBL.out
 refine bodyPost_ret (v:=.agg #[.string p,.int .i64 m,.int .i64 s.dep,.int .i64 s.day,.slice A k c]) ?_ rfl HV.out
 simp [results,Tryz.results16,go_sem,(hb.cell 0).trans (show _=some (Value.string p) from rfl),(hb.cell 1).trans (show _=some (Value.int .i64 m) from rfl),(hb.cell 2).trans (show _=some (Value.int .i64 s.dep) from rfl),(hb.cell 3).trans (show _=some (Value.int .i64 s.day) from rfl),(hb.cell 4).trans (show _=some (Value.slice A k c) from rfl)]
end Go.Proofs.YtgdngfdeeadlnaaGreatDoor
namespace Go.Proofs.YtgdngfdeeadlnaaGreatDoor
theorem pu_snoc (c : UInt8) : ∀ (A : List UInt8) (acc v : Nat),Lib.parseUint10 acc A = .ok v → Lib.parseUint10 acc (A ++ [c]) = Lib.parseUint10 v [c]
 | [],acc,v,h => by
  unfold Lib.parseUint10 at h
  injection h with h
  rw [h]; rfl
 | a :: A,acc,v,h => by
  rw [List.cons_append]
  unfold Lib.parseUint10 at h ⊢
  split at h
  ·rename_i hd
   rw [if_pos hd]
   split at h
   ·cases h
   ·rename_i h1
    rw [if_neg h1]
    split at h
    ·cases h
    ·rename_i h2
     rw [if_neg h2]
     exact pu_snoc c A _ v h
  ·cases h
theorem digit_nat {d : Nat} (h : d < 10) : (UInt8.ofNat (48 + d)).toNat = 48 + d := by
 show (48+d) % 256=48+d
 omega
theorem dec_step (u : Nat) (h : ¬ u < 10) : Lib.decDigits u = Lib.decDigits (u / 10) ++ [UInt8.ofNat (48 + u % 10)] := by
 rw [Lib.decDigits,dif_neg h]
theorem pu_dec (u : Nat) (hu : u < 18446744073709551616) : Lib.parseUint10 0 (Lib.decDigits u) = .ok u := by
 induction u using Nat.strongRecOn with
 | _ u ih =>
  by_cases h:u < 10
  ·rw [Lib.decDigits_one h]
   have hd:=digit_nat h
   unfold Lib.parseUint10
   rw [hd,if_pos (by omega),if_neg (by omega),if_neg (by omega)]
   unfold Lib.parseUint10
   congr 1
   omega
  ·rw [dec_step u h,pu_snoc _ _ _ _ (ih (u / 10) (by omega) (by omega))]
   have hd:=digit_nat (show u % 10 < 10 from Nat.mod_lt _ (by omega))
   unfold Lib.parseUint10
   rw [hd,if_pos (by omega),if_neg (by omega),if_neg (by omega)]
   unfold Lib.parseUint10
   congr 1
   omega
theorem dec_ne (u : Nat) : ∃ c r,Lib.decDigits u = c :: r ∧ c.toNat ≠ 43 ∧ c.toNat ≠ 45 := by
 induction u using Nat.strongRecOn with
 | _ u ih =>
  by_cases h:u < 10
  ·rw [Lib.decDigits_one h]
   exact ⟨_,_,rfl,by rw [digit_nat h]; omega,by rw [digit_nat h]; omega⟩
  ·obtain ⟨c,r,e,h1,h2⟩:=ih (u / 10) (by omega)
   rw [dec_step u h,e]
   exact ⟨c,_,rfl,h1,h2⟩
def I64 (n : Int) : Prop := -9223372036854775808 ≤ n ∧ n ≤ 9223372036854775807
theorem atoi_itoa {n : Int} (h : I64 n) : Lib.atoiAll (Lib.itoa n) = .ok n := by
 unfold I64 at h
 by_cases hn:n < 0
 ·have e:Lib.itoa n=45 :: Lib.decDigits n.natAbs:=by unfold Lib.itoa; rw [if_pos hn]
  obtain ⟨c,r,ec,-,-⟩:=dec_ne n.natAbs
  rw [e]
  unfold Lib.atoiAll
  have h45:(45:UInt8).toNat=45:=rfl
  have hp:Lib.parseMag (Lib.decDigits n.natAbs)=.ok n.natAbs:=by
   unfold Lib.parseMag
   rw [if_neg (by rw [ec]; simp),pu_dec _ (by omega)]
  simp only [h45,or_true,if_true,hp]
  rw [if_neg (by simp),if_neg (by omega)]
  try simp only [if_true]
  congr 1
  omega
 ·have e:Lib.itoa n=Lib.decDigits n.toNat:=by unfold Lib.itoa; rw [if_neg hn]
  obtain ⟨c,r,ec,h43,h45⟩:=dec_ne n.toNat
  have hp:Lib.parseMag (c :: r)=.ok n.toNat:=by
   unfold Lib.parseMag
   rw [if_neg (by simp),← ec,pu_dec _ (by omega)]
  rw [e,ec]
  unfold Lib.atoiAll
  simp only [h43,h45,or_self,if_false,hp]
  rw [if_neg (by omega),if_neg (by simp)]
  congr 1
  omega
def digV (acc : Nat) : List UInt8 → Option Nat
 | [] => some acc
 | c :: r => if 48 ≤ c.toNat ∧ c.toNat ≤ 57 then digV (10*acc+(c.toNat - 48)) r else none
theorem dv_snoc (c : UInt8) : ∀ (A : List UInt8) (acc v : Nat),digV acc A = some v → digV acc (A ++ [c]) = digV v [c]
 | [],acc,v,h => by
  unfold digV at h
  injection h with h
  rw [h]; rfl
 | a :: A,acc,v,h => by
  rw [List.cons_append]
  unfold digV at h ⊢
  split at h
  ·rename_i hd
   rw [if_pos hd]
   exact dv_snoc c A _ v h
  ·cases h
theorem dv_dec (u : Nat) : digV 0 (Lib.decDigits u) = some u := by
 induction u using Nat.strongRecOn with
 | _ u ih =>
  by_cases h:u < 10
  ·rw [Lib.decDigits_one h]
   have hd:=digit_nat h
   unfold digV
   rw [hd,if_pos (by omega)]
   unfold digV
   congr 1
   omega
  ·rw [dec_step u h,dv_snoc _ _ _ _ (ih (u / 10) (by omega))]
   have hd:=digit_nat (show u % 10 < 10 from Nat.mod_lt _ (by omega))
   unfold digV
   rw [hd,if_pos (by omega)]
   unfold digV
   congr 1
   omega
open Classical in
noncomputable def decV (l : List UInt8) : Option Int := if h : ∃ n,I64 n ∧ Lib.itoa n = l then some h.choose else none
theorem itoa_inj {m n : Int} (hm : I64 m) (hn : I64 n) (h : Lib.itoa m = Lib.itoa n) : m = n := by
 have a:=atoi_itoa hm
 rw [h,atoi_itoa hn] at a
 injection a with a
 exact a.symm
theorem decV_some {l : List UInt8} {n : Int} (h : I64 n) (e : Lib.itoa n = l) : decV l = some n := by
 have hx:∃ n,I64 n ∧ Lib.itoa n=l:=⟨n,h,e⟩
 unfold decV
 rw [dif_pos hx]
 have hs:=hx.choose_spec
 rw [itoa_inj hs.1 h (hs.2.trans e.symm)]
theorem decV_none {l : List UInt8} (h : ∀ n,I64 n → Lib.itoa n ≠ l) : decV l = none := by
 unfold decV
 rw [dif_neg]
 rintro ⟨n,a,b⟩
 exact h n a b
theorem decV_spec {l : List UInt8} {n : Int} (h : decV l = some n) : I64 n ∧ Lib.itoa n = l := by
 unfold decV at h
 split at h
 ·rename_i hx
  injection h with h
  rw [← h]
  exact hx.choose_spec
 ·cases h
theorem decV_atoi {l : List UInt8} (h : ∀ n,Lib.atoiAll l ≠ .ok n) : decV l = none := decV_none fun n hn e => h n (by rw [← e]; exact atoi_itoa hn)
theorem dec_len (u : Nat) (k : Nat) (h : u < 10 ^ (k + 1)) : (Lib.decDigits u).length ≤ k + 1 := by
 induction k generalizing u with
 | zero => rw [Lib.decDigits_one (by simpa using h)]; simp
 | succ k ih =>
  by_cases h1:u < 10
  ·rw [Lib.decDigits_one h1]; simp
  ·rw [dec_step u h1,List.length_append]
   have:=ih (u / 10) (by rw [Nat.pow_succ] at h; omega)
   simp only [List.length_cons,List.length_nil]
   omega
theorem decV_ref {l : List UInt8} {n : Int} (h : decV l = some n) :
  (n < 0 ∧ ∃ r,l=45 :: r ∧ 1 ≤ r.length ∧ r.length ≤ 19 ∧ digV 0 r=some n.natAbs) ∨ (0 ≤ n ∧ l.head? ≠ some 45 ∧ 1 ≤ l.length ∧ l.length ≤ 19 ∧ digV 0 l=some n.toNat):=by
 obtain ⟨hn,e⟩:=decV_spec h
 unfold I64 at hn
 by_cases h0:n < 0
 ·refine .inl ⟨h0,Lib.decDigits n.natAbs,by rw [← e]; unfold Lib.itoa; rw [if_pos h0],?_,dec_len _ 18 (by omega),dv_dec _⟩
  obtain ⟨c,r,ec,-,-⟩:=dec_ne n.natAbs
  rw [ec]; simp
 ·have el:l=Lib.decDigits n.toNat:=by rw [← e]; unfold Lib.itoa; rw [if_neg h0]
  obtain ⟨c,r,ec,-,h45⟩:=dec_ne n.toNat
  refine .inr ⟨by omega,?_,?_,?_,by rw [el]; exact dv_dec _⟩
  ·rw [el,ec]
   intro h
   injection h with h
   rw [h] at h45
   exact h45 rfl
  ·rw [el,ec]; simp
  ·rw [el]; exact dec_len _ 18 (by omega)
end Go.Proofs.YtgdngfdeeadlnaaGreatDoor
namespace Go.Proofs.YtgdngfdeeadlnaaGreatDoor
open Go.RowKit Num
end Go.Proofs.YtgdngfdeeadlnaaGreatDoor
namespace Go.Proofs.YtgdngfdeeadlnaaGreatDoor
def ans0 : Ans := ⟨⟨#[]⟩,⟨#[]⟩,0⟩
noncomputable def valA (D : ByteArray → Option Int) (F : Fld) (t : ByteArray) : Option Ans :=
 if F.kind=2 then (decV t.toList).map fun n => ⟨F.name,⟨#[]⟩,n⟩
 else if F.kind=3 then (D t).map fun n => ⟨F.name,⟨#[]⟩,n⟩
 else some ⟨F.name,t,0⟩
noncomputable def valF (D : ByteArray → Option Int) (F : Fld) (t : ByteArray) : Ans × Int :=
 match valA D F t with
 | some a => if fitsF F a=true then (a,0) else (ans0,13)
 | none => (ans0,13)
noncomputable def valS (D : ByteArray → Option Int) (ok : Bool) (L : List Fld) (s t : ByteArray) : Ans × Int :=
 if ok=true then
  match fstF L s with
  | some i => valF D (fldAt L i) t
  | none => (ans0,13)
 else (ans0,1)
section
variable {D : ByteArray → Option Int} {F : Fld} {t s : ByteArray} {a : Ans} {n : Int} {L : List Fld} {i : Nat}
theorem valA_num (k : F.kind = 2) (h : decV t.toList = some n) : valA D F t = some ⟨F.name,⟨#[]⟩,n⟩ := by unfold valA; rw [if_pos k,h]; rfl
theorem valA_num_no (k : F.kind = 2) (h : decV t.toList = none) : valA D F t = none := by unfold valA; rw [if_pos k,h]; rfl
theorem valA_day (k : F.kind = 3) (h : D t = some n) : valA D F t = some ⟨F.name,⟨#[]⟩,n⟩ := by unfold valA; rw [if_neg (by omega),if_pos k,h]; rfl
theorem valA_day_no (k : F.kind = 3) (h : D t = none) : valA D F t = none := by unfold valA; rw [if_neg (by omega),if_pos k,h]; rfl
theorem valA_txt (k : F.kind ≠ 2) (k3 : F.kind ≠ 3) : valA D F t = some ⟨F.name,t,0⟩ := by unfold valA; rw [if_neg k,if_neg k3]
theorem valF_yes (h : valA D F t = some a) (hf : fitsF F a = true) : valF D F t = (a,0) := by unfold valF; rw [h]; exact if_pos hf
theorem valF_no (h : valA D F t = some a) (hf : fitsF F a = false) : valF D F t = (ans0,13) := by unfold valF; rw [h]; exact if_neg (by rw [hf]; simp)
theorem valF_none (h : valA D F t = none) : valF D F t = (ans0,13) := by unfold valF; rw [h]
theorem valS_bad : valS D false L s t = (ans0,1) := by unfold valS; rw [if_neg (by simp)]
theorem valS_miss (h : fstF L s = none) : valS D true L s t = (ans0,13) := by unfold valS; rw [if_pos rfl,h]
theorem valS_hit (h : fstF L s = some i) : valS D true L s t = valF D (fldAt L i) t := by unfold valS; rw [if_pos rfl,h]
end
end Go.Proofs.YtgdngfdeeadlnaaGreatDoor

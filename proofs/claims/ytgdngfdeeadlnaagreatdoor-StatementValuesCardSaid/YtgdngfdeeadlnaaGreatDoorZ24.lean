/- Contracts: the plays' One, Of and a term of their Condition. And more. -/
import Derived.Test.YtgdngfdeeadlnaaGreatDoorZ11
import Derived.Test.YtgdngfdeeadlnaaGreatDoorZ09
import Derived.Test.YtgdngfdeeadlnaaGreatDoorZ10
import Derived.Test.YtgdngfdeeadlnaaGreatDoorZ15
import Derived.Test.YtgdngfdeeadlnaaGreatDoorZ12
import Derived.Deep.CutRange
import Derived.Deep.CutBlock
import Derived.Test.YtgdngfdeeadlnaaGreatDoorZ05
import Derived.Test.YtgdngfdeeadlnaaGreatDoorZ23
import Derived.BigRegion
import Derived.Deep.RegionLaw
import Derived.Test.YtgdngfdeeadlnaaGreatDoorZ04
import Derived.Test.YtgdngfdeeadlnaaGreatDoorZ21
import Derived.Test.YtgdngfdeeadlnaaGreatDoorZ08
import Derived.Test.YtgdngfdeeadlnaaGreatDoorZ02
set_option linter.unusedVariables false
set_option linter.unusedSimpArgs false
namespace Go.Proofs.YtgdngfdeeadlnaaGreatDoor
open Go.RowKit Num
def trmZ : Array Value := #[.int .i64 0,.int .i64 0,.int .i64 0,.string ⟨#[]⟩,.string ⟨#[]⟩,.slice none 0 0]
def trmC (k n y : Int) (f x : ByteArray) : Array Value := #[.int .i64 k,.int .i64 n,.int .i64 y,.string f,.string x,.slice none 0 0]
def PlT (w : World) (db : Nat) (e : Ending) (w' : World) : Prop := ∃ k n y f x,e = .returned (.agg (trmC k n y f x)) ∧ KitT ⟨k,n,y,f,x,[]⟩ ∧ Dc w' db ∧ w.grownBy w' (some db)
structure C1 (w W : World) (db bx : Nat) : Prop where
  dc : Dc W db
  res : Blk W w.heap.size 75 trmZ
  box : Blk W bx 33 #[.pointer (some ⟨db, 0, none⟩)]
  gw : w.grownBy W (some db)
  dl : db < w.heap.size
  bl : bx < w.heap.size
  ne : bx ≠ db
theorem C1.dice {w W W' : World} {db bx : Nat} (h : C1 w W db bx) (hd : Dc W' db) (hg : W.grownBy W' (some db)) : C1 w W' db bx :=
 ⟨hd,(hg.block _ h.res.lt (by intro e; injection e; have:=h.dl; omega)).trans h.res,(hg.block _ h.box.lt (by intro e; injection e; exact h.ne (by omega))).trans h.box,gb_trans h.gw hg,h.dl,h.bl,h.ne⟩
theorem C1.rc {w W : World} {db bx : Nat} (h : C1 w W db bx) (i : Nat) : W.cell? ⟨w.heap.size,i,none⟩ = trmZ[i]? := h.res.cell i
theorem C1.fin {w W : World} {db bx : Nat} (h : C1 w W db bx) (k n y : Int) (f x : ByteArray) :
  ∀ W2,W2=(((((W.setCell ⟨w.heap.size,0,none⟩ (.int .i64 k)).setCell ⟨w.heap.size,1,none⟩ (.int .i64 n)).setCell ⟨w.heap.size,2,none⟩ (.int .i64 y)).setCell ⟨w.heap.size,3,none⟩ (.string f)).setCell ⟨w.heap.size,4,none⟩ (.string x)).setCell ⟨w.heap.size,5,none⟩ (.slice none 0 0) →
   (KitT ⟨k,n,y,f,x,[]⟩ → PlT w db (.returned (.agg (trmC k n y f x))) W2) ∧ Blk W2 w.heap.size 75 (trmC k n y f x):=fun W2 hW2 => by
 have hc:Chg W W2 (fun q => q=w.heap.size):=by
  rw [hW2]
  exact Chg.setCell (Chg.setCell (Chg.setCell (Chg.setCell (Chg.setCell (Chg.setCell (Chg.refl W (fun q => q=w.heap.size)) ⟨w.heap.size,0,none⟩ (fun _ => rfl) _) ⟨w.heap.size,1,none⟩ (fun _ => rfl) _) ⟨w.heap.size,2,none⟩ (fun _ => rfl) _) ⟨w.heap.size,3,none⟩ (fun _ => rfl) _) ⟨w.heap.size,4,none⟩ (fun _ => rfl) _) ⟨w.heap.size,5,none⟩ (fun _ => rfl) _
 have hb:Blk W2 w.heap.size 75 (trmC k n y f x):=by
  rw [hW2]
  exact (((((h.res.set_ 0 _).set_ 1 _).set_ 2 _).set_ 3 _).set_ 4 _).set_ 5 _
 have hs:=hc.size
 have h1:=h.dl
 refine ⟨fun hk => ⟨k,n,y,f,x,rfl,hk,h.dc.keep fun q hq => hc.block q (by have:=h.dc.lt; omega) (by omega),?_⟩,hb⟩
 exact ⟨hc.os.trans h.gw.os,hc.tape.trans h.gw.tape,hc.output.trans h.gw.output,Nat.le_trans h.gw.size hs,fun q hq hne => (hc.block q (Nat.lt_of_lt_of_le hq h.gw.size) (by omega)).trans (h.gw.block q hq hne)⟩
def PlC (w : World) (db : Nat) (e : Ending) (w' : World) : Prop := ∃ A n c L,e = .returned (.agg #[.slice A n c]) ∧ TermsAt w' (fun b => w.heap.size ≤ b ∧ b < w'.heap.size) (.slice A n c) L ∧ L.length ≤ 3 ∧ (∀ t ∈ L,KitT t) ∧ Dc w' db ∧ w.grownBy w' (some db)
structure C2 (w W : World) (db : Nat) : Prop where
  dc : Dc W db
  box : Blk W w.heap.size 33 #[.pointer (some ⟨db, 0, none⟩)]
  res : Blk W (w.heap.size + 1) 26 #[.slice none 0 0]
  gw : w.grownBy W (some db)
  dl : db < w.heap.size
section
variable {w W W' : World} {db : Nat}
theorem C2.dice (h : C2 w W db) (hd : Dc W' db) (hg : W.grownBy W' (some db)) : C2 w W' db :=
 ⟨hd,(hg.block _ h.box.lt (by intro e; injection e; have:=h.dl; omega)).trans h.box,(hg.block _ h.res.lt (by intro e; injection e; have:=h.dl; omega)).trans h.res,gb_trans h.gw hg,h.dl⟩
theorem C2.alloc (h : C2 w W db) (o : Obj) : C2 w (W.alloc o) db := h.dice (h.dc.alloc o) (World.grownBy_alloc W o _)
theorem C2.rc (h : C2 w W db) : W.cell? ⟨w.heap.size + 1,0,none⟩ = some (.slice none 0 0) := (h.res.cell 0).trans rfl
theorem C2.fin (h : C2 w W db) {A : Option Addr} {n c : Nat} {L : List Trm} (hT : TermsAt W (fun b => w.heap.size + 1 < b ∧ b < W.heap.size) (.slice A n c) L) (hl : L.length ≤ 3) (hk : ∀ t ∈ L,KitT t) :
  PlC w db (.returned (.agg #[.slice A n c])) (W.setCell ⟨w.heap.size+1,0,none⟩ (.slice A n c)) ∧ (W.setCell ⟨w.heap.size+1,0,none⟩ (.slice A n c)).cell? ⟨w.heap.size+1,0,none⟩=some (.slice A n c):=by
 have hg:W.grownBy (W.setCell ⟨w.heap.size+1,0,none⟩ (.slice A n c)) (some (w.heap.size+1)):=grown_setCell W ⟨w.heap.size+1,0,none⟩ _
 have h1:=h.dl
 refine ⟨⟨A,n,c,L,rfl,(hT.keep fun b hb => hg.block b hb.2 (by intro e; injection e; omega)).mono fun b hb => ⟨by omega,by have:=hg.size; omega⟩,hl,hk,h.dc.keep fun q hq => hg.block q (by have:=h.dc.lt; omega) (by intro e; injection e; omega),?_⟩,World.cell?_setCell_same W ⟨w.heap.size+1,0,none⟩ _ h.rc⟩
 exact ⟨hg.os.trans h.gw.os,hg.tape.trans h.gw.tape,hg.output.trans h.gw.output,Nat.le_trans h.gw.size hg.size,fun q hq hne => (hg.block q (Nat.lt_of_lt_of_le hq h.gw.size) (by intro e; injection e; omega)).trans (h.gw.block q hq hne)⟩
end
theorem infoAn : (Tryz.prog.info? 50).map (fun i => (i.zero,i.size,i.bytes)) = some (some (.agg #[.string ⟨#[]⟩,.string ⟨#[]⟩,.int .i64 0]),3,40) := by kernel_rfl
theorem infoSw : (Tryz.prog.info? 73).map (fun i => (i.zero,i.size,i.bytes)) = some (some (.agg #[.string ⟨#[]⟩,.string ⟨#[]⟩]),2,32) := by kernel_rfl
theorem GSt.lt {w W : World} {db tb : Nat} {s : Stm} {va vc vs : Value} (h : GSt w W db tb s va vc vs) : db < W.heap.size ∧ tb < W.heap.size ∧ w.heap.size < W.heap.size := ⟨h.dc.lt,h.blk.lt,h.res.lt⟩
section
variable {w : World} {b : ByteArray} {tb : Nat} {st : Stm} {va vc vs : Value}
theorem rs_text (hb : b.size ≤ 1000000) (s : RS) (x : ByteArray) (s1 : RS) (h1 : (rdT s).1 = x) (h2 : (rdT s).2 = s1) (W : World) (h : RSt w W b tb s st va vc vs) : Calls Tryz.prog 59 #[.pointer (some ⟨w.heap.size + 1,0,none⟩)] W fun e W' => e = .returned (.string x) ∧ RSt w W' b tb s1 st va vc vs := by
 subst h1 h2
 exact (r_textS b (w.heap.size+1) s W hb h.rd).mono fun e W' ⟨he,hr,hg⟩ => ⟨he,h.call hr hg⟩
theorem rs_num (hb : b.size ≤ 1000000) (s : RS) (x : Int) (s1 : RS) (h1 : (rdI s).1 = x) (h2 : (rdI s).2 = s1) (W : World) (h : RSt w W b tb s st va vc vs) : Calls Tryz.prog 60 #[.pointer (some ⟨w.heap.size + 1,0,none⟩)] W fun e W' => e = .returned (.int .i64 x) ∧ RSt w W' b tb s1 st va vc vs := by
 subst h1 h2
 exact (r_number b (w.heap.size+1) s W hb h.rd).mono fun e W' ⟨he,hr,hg⟩ => ⟨he,h.call hr hg⟩
end
set_option maxRecDepth 100000 in
set_option maxHeartbeats 4000000 in
theorem rd_item1 {w : World} {b : ByteArray} {tb : Nat} {s : RS} {st : Stm} {va vc vs : Value} (W : World) (hb : b.size ≤ 1000000) (hl : st.ans.length ≤ 1000) (h : RSt w W b tb s st va vc vs) :
  Calls Tryz.prog 62 #[.pointer (some ⟨tb,0,none⟩),.pointer (some ⟨w.heap.size+2,0,none⟩)] W fun e W' => e=.returned (.tuple #[]) ∧ ∃ v',RSt w W' b tb (rdAns s).2 { st with ans:=st.ans ++ [(rdAns s).1] } v' vc vs:=by
 obtain ⟨i0,hi,hz0,hz1,hz2⟩:=info_parts infoAn
 obtain ⟨f1,hf1⟩:∃ x,(rdT s).1=x:=⟨_,rfl⟩
 obtain ⟨s1,hs1⟩:∃ x,(rdT s).2=x:=⟨_,rfl⟩
 obtain ⟨f2,hf2⟩:∃ x,(rdT s1).1=x:=⟨_,rfl⟩
 obtain ⟨s2,hs2⟩:∃ x,(rdT s1).2=x:=⟨_,rfl⟩
 obtain ⟨n3,hn3⟩:∃ x,(rdI s2).1=x:=⟨_,rfl⟩
 obtain ⟨s3,hs3⟩:∃ x,(rdI s2).2=x:=⟨_,rfl⟩
 have hit:rdAns s=(⟨f1,f2,n3⟩,s3):=by unfold rdAns; rw [hf1,hs1,hf2,hs2,hn3,hs3]
 have h3:=fun (W:World) (h:RSt w W b tb s2 st va vc vs) => rs_num hb s2 n3 s3 hn3 hs3 W h
 have H3:=Lib.hid h3
 clear h3 hn3 hs3
 have h1:=fun (W:World) (h:RSt w W b tb s st va vc vs) => rs_text hb s f1 s1 hf1 hs1 W h
 have h2:=fun (W:World) (h:RSt w W b tb s1 st va vc vs) => rs_text hb s1 f2 s2 hf2 hs2 W h
 rw [hit]
 have H1:=Lib.hid h1
 have H2:=Lib.hid h2
 have H:=Lib.hid h
 obtain ⟨Av,cv,hve⟩:=own_slice h.oa
 subst hve
 obtain ⟨m,hm⟩:∃ m,st.ans.length=m:=⟨_,rfl⟩
 rw [hm] at hl H H1 H2 H3
 have HM:=Lib.hid hm
 have tlt:=h.tlt
 have x0:=h.c3
 have x1:=pt_drew h.c3
 have x2:=h.cp
 have x3:=pt_drew h.cp
 rw [hm] at x0 x1
 clear h1 h2 h hf1 hs1 hf2 hs2 hit hm
 have hmx:Tryz.prog.follows .mixedOrders=true:=by kernel_rfl
 go_enter Tryz.func62,Tryz.ntmps62
 go_upto_region 0 with fail
 refine wp_region_last_lit _ _ (fun W => W.cell? ⟨tb,3,none⟩=some (.slice Av m cv) ∧ W.cell? ⟨w.heap.size+2,0,none⟩=some (.pointer (some ⟨w.heap.size+1,0,none⟩))) hmx rfl (by kernel_rfl) ⟨x0,x2⟩ (fun hS => ?_)
 simp only [List.dropLast]
 refine t1 0 rfl ?_
 try simp only [pt]
 refine t1 1 rfl ?_
 try simp only [pt]
 refine t1 2 rfl ?_
 try simp only [pt]
 refine t1 4 rfl ?_
 try simp only [pt]
 refine t1 6 rfl ?_
 try simp only [pt]
 refine wpAnyH_ready (rs:=[3]) (by kernel_rfl) (by simp) ?_
 refine AllReadyH.cons rfl (fun K hK => ?_) AllReadyH.nil
 go_simp
 refine (H1.out _ H.out.drew).mono ?_
 rintro e w5 ⟨rfl,h5⟩
 have H5:=Lib.hid h5
 clear h5
 refine hK.out _ _ (⟨H5.out.c3,H5.out.cp⟩) (fun hHeld => ?_)
 clear hK K
 try simp only [pt]
 refine wpAnyH_ready (rs:=[5]) (by kernel_rfl) (by simp) ?_
 refine AllReadyH.cons rfl (fun K hK => ?_) AllReadyH.nil
 go_simp
 refine (H2.out _ H5.out).mono ?_
 rintro e w6 ⟨rfl,h6⟩
 have H6:=Lib.hid h6
 clear h6
 refine hK.out _ _ (⟨H6.out.c3,H6.out.cp⟩) (fun hHeld => ?_)
 clear hK K
 try simp only [pt]
 refine wpAnyH_ready (rs:=[7]) (by kernel_rfl) (by simp) ?_
 refine AllReadyH.cons rfl (fun K hK => ?_) AllReadyH.nil
 go_simp
 refine (H3.out _ H6.out).mono ?_
 rintro e w7 ⟨rfl,h7⟩
 have HW:=Lib.hid h7
 have l7:=h7.blk.lt
 have ho7:=h7.oa
 rw [HM.out] at ho7
 have HOW:=Lib.hid ho7
 clear ho7
 clear h7
 refine hK.out _ _ (⟨HW.out.c3,HW.out.cp⟩) (fun hHeld => ?_)
 clear hK K
 try simp only [pt]
 refine t1 8 rfl ?_
 try simp only [pt]
 refine wpAnyH_ready (rs:=[9]) (by kernel_rfl) (by simp) ?_
 refine AllReadyH.cons rfl (fun K hK => ?_) AllReadyH.nil
 go_simp
 refine hK.out _ _ (⟨(HW.out.alloc _).c3,(HW.out.alloc _).cp⟩) (fun hHeld => ?_)
 clear hK K
 try simp only [pt]
 refine wpAnyH_ready (rs:=[10]) (by kernel_rfl) (by simp) ?_
 refine AllReadyH.cons rfl (fun K hK => ?_) AllReadyH.nil
 refine step_append_lies _ (by rfl) _ _ _ (by rfl) tb 50 i0 _ 3 40 Tryz.underlying23 hi hz0 hz1 hz2 rfl (by omega) _ m (ansC st.ans) (by rfl) (HOW.out.alloc _) ⟨w7.heap.size,0,none⟩ 1 1 [.string f1,.string f2,.int .i64 n3] (by rfl) (by rfl) (World.news_of_block (cs:=#[.string f1,.string f2,.int .i64 n3]) (t:=50) (fr:=(0,0)) (heap_alloc_new w7 _)) (by intro u hu; simp at hu; rcases hu with rfl | rfl | rfl <;> rfl) (by omega) (by simp only [maxLen]; omega) (by omega) (by simp; omega) (w7.heap.size+1) (by simp) ?_
 intro gg cap w10 hown10 hgr10 hat10 hlt10
 have hx10:w10.ownsRow tb 50 3 (.slice (some ⟨gg,0,none⟩) (m+1) cap) (st.ans.length+1) (ansC st.ans ++ [.string f1,.string f2,.int .i64 n3]):=by rw [HM.out]; exact hown10
 have MO:=Lib.hid (HW.out.pushA (a:=⟨f1,f2,n3⟩) hx10 hgr10 (by rcases hat10 with e | e; exact .inl e.symm; exact .inr (by rw [e]; rfl)))
 have mc:=MO.out.2.1
 have mf:=MO.out.2.2
 have mp:w10.cell? ⟨w.heap.size+2,0,none⟩=some (.pointer (some ⟨w.heap.size+1,0,none⟩)):=(World.cell?_setCell_other w10 _ ⟨w.heap.size+2,0,none⟩ _ (by intro e; injection e; omega)).symm.trans MO.out.1.cp
 clear hown10 hgr10 hat10 hx10
 refine hK.out _ _ (⟨mc,mp⟩) (fun hHeld => ?_)
 clear hK K
 try simp only [pt]
 refine t1 11 rfl ?_
 try simp only [pt]
 refine wpAnyH_done (by kernel_rfl) ?_ _
 refine lastQ_step (by rfl) (by rfl) ?_
 go_simp
 go_wp2_with fail
 go_end0
 exact ⟨rfl,_,MO.out.1⟩
set_option maxRecDepth 100000 in
set_option maxHeartbeats 4000000 in
theorem rd_item2 {w : World} {b : ByteArray} {tb : Nat} {s : RS} {st : Stm} {va vc vs : Value} (W : World) (hb : b.size ≤ 1000000) (hl : st.shw.length ≤ 1000) (h : RSt w W b tb s st va vc vs) :
  Calls Tryz.prog 64 #[.pointer (some ⟨tb,0,none⟩),.pointer (some ⟨w.heap.size+2,0,none⟩)] W fun e W' => e=.returned (.tuple #[]) ∧ ∃ v',RSt w W' b tb (rdShw s).2 { st with shw:=st.shw ++ [(rdShw s).1] } va vc v':=by
 obtain ⟨i0,hi,hz0,hz1,hz2⟩:=info_parts infoSw
 obtain ⟨f1,hf1⟩:∃ x,(rdT s).1=x:=⟨_,rfl⟩
 obtain ⟨s1,hs1⟩:∃ x,(rdT s).2=x:=⟨_,rfl⟩
 obtain ⟨f2,hf2⟩:∃ x,(rdT s1).1=x:=⟨_,rfl⟩
 obtain ⟨s2,hs2⟩:∃ x,(rdT s1).2=x:=⟨_,rfl⟩
 have hit:rdShw s=(⟨f1,f2⟩,s2):=by unfold rdShw; rw [hf1,hs1,hf2,hs2]
 have h1:=fun (W:World) (h:RSt w W b tb s st va vc vs) => rs_text hb s f1 s1 hf1 hs1 W h
 have h2:=fun (W:World) (h:RSt w W b tb s1 st va vc vs) => rs_text hb s1 f2 s2 hf2 hs2 W h
 rw [hit]
 have H1:=Lib.hid h1
 have H2:=Lib.hid h2
 have H:=Lib.hid h
 obtain ⟨Av,cv,hve⟩:=own_slice h.os
 subst hve
 obtain ⟨m,hm⟩:∃ m,st.shw.length=m:=⟨_,rfl⟩
 rw [hm] at hl H H1 H2
 have HM:=Lib.hid hm
 have tlt:=h.tlt
 have x0:=h.c5
 have x1:=pt_drew h.c5
 have x2:=h.cp
 have x3:=pt_drew h.cp
 rw [hm] at x0 x1
 clear h1 h2 h hf1 hs1 hf2 hs2 hit hm
 have hmx:Tryz.prog.follows .mixedOrders=true:=by kernel_rfl
 go_enter Tryz.func64,Tryz.ntmps64
 go_upto_region 0 with fail
 refine wp_region_last_lit _ _ (fun W => W.cell? ⟨tb,5,none⟩=some (.slice Av m cv) ∧ W.cell? ⟨w.heap.size+2,0,none⟩=some (.pointer (some ⟨w.heap.size+1,0,none⟩))) hmx rfl (by kernel_rfl) ⟨x0,x2⟩ (fun hS => ?_)
 simp only [List.dropLast]
 refine t1 0 rfl ?_
 try simp only [pt]
 refine t1 1 rfl ?_
 try simp only [pt]
 refine t1 2 rfl ?_
 try simp only [pt]
 refine t1 4 rfl ?_
 try simp only [pt]
 refine wpAnyH_ready (rs:=[3]) (by kernel_rfl) (by simp) ?_
 refine AllReadyH.cons rfl (fun K hK => ?_) AllReadyH.nil
 go_simp
 refine (H1.out _ H.out.drew).mono ?_
 rintro e w5 ⟨rfl,h5⟩
 have H5:=Lib.hid h5
 clear h5
 refine hK.out _ _ (⟨H5.out.c5,H5.out.cp⟩) (fun hHeld => ?_)
 clear hK K
 try simp only [pt]
 refine wpAnyH_ready (rs:=[5]) (by kernel_rfl) (by simp) ?_
 refine AllReadyH.cons rfl (fun K hK => ?_) AllReadyH.nil
 go_simp
 refine (H2.out _ H5.out).mono ?_
 rintro e w6 ⟨rfl,h6⟩
 have HW:=Lib.hid h6
 have l7:=h6.blk.lt
 have ho7:=h6.os
 rw [HM.out] at ho7
 have HOW:=Lib.hid ho7
 clear ho7
 clear h6
 refine hK.out _ _ (⟨HW.out.c5,HW.out.cp⟩) (fun hHeld => ?_)
 clear hK K
 try simp only [pt]
 refine t1 6 rfl ?_
 try simp only [pt]
 refine wpAnyH_ready (rs:=[7]) (by kernel_rfl) (by simp) ?_
 refine AllReadyH.cons rfl (fun K hK => ?_) AllReadyH.nil
 go_simp
 refine hK.out _ _ (⟨(HW.out.alloc _).c5,(HW.out.alloc _).cp⟩) (fun hHeld => ?_)
 clear hK K
 try simp only [pt]
 refine wpAnyH_ready (rs:=[8]) (by kernel_rfl) (by simp) ?_
 refine AllReadyH.cons rfl (fun K hK => ?_) AllReadyH.nil
 refine step_append_lies _ (by rfl) _ _ _ (by rfl) tb 73 i0 _ 2 32 Tryz.underlying27 hi hz0 hz1 hz2 rfl (by omega) _ m (shwC st.shw) (by rfl) (HOW.out.alloc _) ⟨w6.heap.size,0,none⟩ 1 1 [.string f1,.string f2] (by rfl) (by rfl) (World.news_of_block (cs:=#[.string f1,.string f2]) (t:=73) (fr:=(0,0)) (heap_alloc_new w6 _)) (by intro u hu; simp at hu; rcases hu with rfl | rfl <;> rfl) (by omega) (by simp only [maxLen]; omega) (by omega) (by simp; omega) (w6.heap.size+1) (by simp) ?_
 intro gg cap w10 hown10 hgr10 hat10 hlt10
 have hx10:w10.ownsRow tb 73 2 (.slice (some ⟨gg,0,none⟩) (m+1) cap) (st.shw.length+1) (shwC st.shw ++ [.string f1,.string f2]):=by rw [HM.out]; exact hown10
 have MO:=Lib.hid (HW.out.pushS (a:=⟨f1,f2⟩) hx10 hgr10 (by rcases hat10 with e | e; exact .inl e.symm; exact .inr (by rw [e]; rfl)))
 have mc:=MO.out.2.1
 have mf:=MO.out.2.2
 have mp:w10.cell? ⟨w.heap.size+2,0,none⟩=some (.pointer (some ⟨w.heap.size+1,0,none⟩)):=(World.cell?_setCell_other w10 _ ⟨w.heap.size+2,0,none⟩ _ (by intro e; injection e; omega)).symm.trans MO.out.1.cp
 clear hown10 hgr10 hat10 hx10
 refine hK.out _ _ (⟨mc,mp⟩) (fun hHeld => ?_)
 clear hK K
 try simp only [pt]
 refine t1 9 rfl ?_
 try simp only [pt]
 refine wpAnyH_done (by kernel_rfl) ?_ _
 refine lastQ_step (by rfl) (by rfl) ?_
 go_simp
 go_wp2_with fail
 go_end0
 exact ⟨rfl,_,MO.out.1⟩
structure RSo (w W : World) (b : ByteArray) (o : Option Nat) (s : RS) : Prop where
  rd : RdB W (w.heap.size + 1) b s
  ptr : Blk W (w.heap.size + 2) 108 #[.pointer (some ⟨w.heap.size + 1, 0, none⟩)]
  res : Blk W w.heap.size 29 stmZ
  blk : ∀ tb, o = some tb → Blk W tb 29 stmZ ∧ w.heap.size + 2 < tb
  old : Below w.heap.size w W
section
variable {w W W' : World} {b : ByteArray} {tb : Nat} {s s' : RS} {st : Stm} {va vc vs v : Value} {o : Option Nat} {L : List Trm}
theorem RSo.call (h : RSo w W b o s) (hr : RdB W' (w.heap.size + 1) b s') (hg : W.grownBy W' (some (w.heap.size + 1))) : RSo w W' b o s' := by
 have lp:=h.ptr.lt
 have kb:∀ q,q < W.heap.size → q ≠ w.heap.size+1 → W'.heap[q]?=W.heap[q]?:=fun q hq hne => hg.block q hq (fun e => hne (Option.some.inj e))
 exact ⟨hr,(kb _ lp (by omega)).trans h.ptr,(kb _ (by omega) (by omega)).trans h.res,fun tb ht => by
  obtain ⟨h1,h2⟩:=h.blk tb ht
  exact ⟨(kb _ h1.lt (by omega)).trans h1,h2⟩,h.old.grown hg (by omega) (fun g hg => by injection hg; omega)⟩
theorem RSo.text (hb : b.size ≤ 1000000) (x : ByteArray) (s1 : RS) (h1 : (rdT s).1 = x) (h2 : (rdT s).2 = s1) (W : World) (h : RSo w W b o s) : Calls Tryz.prog 59 #[.pointer (some ⟨w.heap.size + 1,0,none⟩)] W fun e W' => e = .returned (.string x) ∧ RSo w W' b o s1 := by
 subst h1 h2
 exact (r_textS b (w.heap.size+1) s W hb h.rd).mono fun e W' ⟨he,hr,hg⟩ => ⟨he,h.call hr hg⟩
theorem RSo.num (hb : b.size ≤ 1000000) (x : Int) (s1 : RS) (h1 : (rdI s).1 = x) (h2 : (rdI s).2 = s1) (W : World) (h : RSo w W b o s) : Calls Tryz.prog 60 #[.pointer (some ⟨w.heap.size + 1,0,none⟩)] W fun e W' => e = .returned (.int .i64 x) ∧ RSo w W' b o s1 := by
 subst h1 h2
 exact (r_number b (w.heap.size+1) s W hb h.rd).mono fun e W' ⟨he,hr,hg⟩ => ⟨he,h.call hr hg⟩
theorem RSo.drew (h : RSo w W b o s) : RSo w W.drew b o s := ⟨h.rd,h.ptr,h.res,h.blk,h.old.drew⟩
theorem RSo.al (h : RSo w W b none s) : RSo w (W.alloc (.cells stmZ 29)) b (some W.heap.size) s :=
 ⟨h.rd.keep (Below.heap_alloc W _ _ h.rd.lt),h.ptr.alloc _,h.res.alloc _,fun tb ht => by
  injection ht with e
  subst e
  exact ⟨Blk.new W _ _,h.ptr.lt⟩,h.old.alloc (Nat.le_trans h.old.size (Nat.le_refl _)) _⟩
theorem RSo.alD (h : RSo w W b none s) : RSo w (W.drew.alloc (.cells stmZ 29)) b (some W.heap.size) s := h.drew.al
theorem RSo.cp (h : RSo w W b o s) : W.cell? ⟨w.heap.size + 2,0,none⟩ = some (.pointer (some ⟨w.heap.size + 1,0,none⟩)) := (h.ptr.cell 0).trans rfl
theorem RSo.start (w : World) (b : ByteArray) : RSo w (((w.alloc (.cells stmZ 29)).alloc (.cells #[.string b,.int .i64 0,.bool false] 110)).alloc (.cells #[.pointer (some ⟨w.heap.size + 1,0,none⟩)] 108)) b none ⟨blOf b,false⟩ := by
 have h1:=Blk.new w 29 stmZ
 have h2:=Blk.new (w.alloc (.cells stmZ 29)) 110 #[.string b,.int .i64 0,.bool false]
 have h3:=Blk.new ((w.alloc (.cells stmZ 29)).alloc (.cells #[.string b,.int .i64 0,.bool false] 110)) 108 #[.pointer (some ⟨w.heap.size+1,0,none⟩)]
 rw [World.size_alloc] at h2
 rw [World.size_alloc,World.size_alloc] at h3
 exact ⟨⟨0,h2.alloc _,Nat.zero_le _,rfl⟩,h3,(h1.alloc _).alloc _,(fun tb ht => by cases ht),
  (((Below.refl _ w).alloc (Nat.le_refl _) _).alloc (by simp) _).alloc (by simp; omega) _⟩
theorem RSo.rst (h : RSo w W b (some tb) s) (r : ByteArray) (d y : Int) :
  RSt w ((((((W.setCell ⟨tb,0,none⟩ (.string r)).setCell ⟨tb,1,none⟩ (.int .i64 d)).setCell ⟨tb,2,none⟩ (.int .i64 y)).setCell ⟨tb,3,none⟩ (.slice none 0 0)).setCell ⟨tb,4,none⟩ (.slice none 0 0)).setCell ⟨tb,5,none⟩ (.slice none 0 0)) b tb s ⟨r,d,y,[],[],[]⟩ (.slice none 0 0) (.slice none 0 0) (.slice none 0 0):=by
 obtain ⟨hb,ht⟩:=h.blk tb rfl
 have hbl:=(((((hb.set_ 0 (.string r)).set_ 1 (.int .i64 d)).set_ 2 (.int .i64 y)).set_ 3 (.slice none 0 0)).set_ 4 (.slice none 0 0)).set_ 5 (.slice none 0 0)
 have hc:Chg W ((((((W.setCell ⟨tb,0,none⟩ (.string r)).setCell ⟨tb,1,none⟩ (.int .i64 d)).setCell ⟨tb,2,none⟩ (.int .i64 y)).setCell ⟨tb,3,none⟩ (.slice none 0 0)).setCell ⟨tb,4,none⟩ (.slice none 0 0)).setCell ⟨tb,5,none⟩ (.slice none 0 0)) (fun q => q=tb) :=
  Chg.setCell (Chg.setCell (Chg.setCell (Chg.setCell (Chg.setCell (Chg.setCell (Chg.refl W (fun q => q=tb)) ⟨tb,0,none⟩ (fun _ => rfl) _) ⟨tb,1,none⟩ (fun _ => rfl) _) ⟨tb,2,none⟩ (fun _ => rfl) _) ⟨tb,3,none⟩ (fun _ => rfl) _) ⟨tb,4,none⟩ (fun _ => rfl) _) ⟨tb,5,none⟩ (fun _ => rfl) _
 generalize ((((((W.setCell ⟨tb,0,none⟩ (.string r)).setCell ⟨tb,1,none⟩ (.int .i64 d)).setCell ⟨tb,2,none⟩ (.int .i64 y)).setCell ⟨tb,3,none⟩ (.slice none 0 0)).setCell ⟨tb,4,none⟩ (.slice none 0 0)).setCell ⟨tb,5,none⟩ (.slice none 0 0))=W2 at *
 have lr:=h.rd.lt
 have lp:=h.ptr.lt
 have ls:=h.res.lt
 exact ⟨h.rd.keep (hc.block _ lr (by omega)),(hc.block _ lp (by omega)).trans h.ptr,(hc.block _ ls (by omega)).trans h.res,hbl,World.ownsRow_nil _ _ _ _,World.ownsRow_nil _ _ _ _,terms_none _ _,
  ⟨hc.os.trans h.old.os,hc.tape.trans h.old.tape,hc.output.trans h.old.output,Nat.le_trans h.old.size hc.size,fun q hq => (hc.block q (Nat.lt_of_lt_of_le hq h.old.size) (by omega)).trans (h.old.block q hq)⟩,ht⟩
theorem RSo.rstA (h : RSo w W b none s) (r : ByteArray) (d y : Int) :
  RSt w (W.alloc (.cells #[.string r,.int .i64 d,.int .i64 y,.slice none 0 0,.slice none 0 0,.slice none 0 0] 29)) b W.heap.size s ⟨r,d,y,[],[],[]⟩ (.slice none 0 0) (.slice none 0 0) (.slice none 0 0) :=
 ⟨h.rd.keep (Below.heap_alloc W _ _ h.rd.lt),h.ptr.alloc _,h.res.alloc _,Blk.new W _ _,World.ownsRow_nil _ _ _ _,World.ownsRow_nil _ _ _ _,terms_none _ _,h.old.alloc h.old.size _,h.ptr.lt⟩
theorem RSt.condS (h : RSt w W b tb s st va vc vs) {N : Nat} (hT : TermsAt W (fun q => N ≤ q ∧ q < W.heap.size) v L) (ha : ∀ g,va.ownBlock = some g → g < N) (hs : ∀ g,vs.ownBlock = some g → g < N) (ht : tb < N) : RSt w (W.setCell ⟨tb,4,none⟩ v) b tb s { st with cond := L } va v vs := by
 have h1:=h.tlt
 have l1:=h.blk.lt
 have hset:W.grownBy (W.setCell ⟨tb,4,none⟩ v) (some tb):=grown_setCell W ⟨tb,4,none⟩ v
 have hss:=hset.size
 have k2:∀ q,q < W.heap.size → q ≠ tb → (W.setCell ⟨tb,4,none⟩ v).heap[q]?=W.heap[q]?:=fun q hq h9 => hset.block q hq (fun e => h9 (Option.some.inj e))
 refine ⟨h.rd.keep (k2 _ (by omega) (by omega)),(k2 _ (by omega) (by omega)).trans h.ptr,(k2 _ (by omega) (by omega)).trans h.res,h.blk.set_ 4 v,h.oa.kept hset (.inr fun e => by have:=own_above h.oa h.blk (by decide) tb e; omega),h.os.kept hset (.inr fun e => by have:=own_above h.os h.blk (by decide) tb e; omega),
  (hT.keep fun q hq => k2 q hq.2 (by omega)).mono fun q hq => ⟨by omega,by omega,fun e => by have:=ha q e; omega,fun e => by have:=hs q e; omega⟩,
  ⟨hset.os.trans h.old.os,hset.tape.trans h.old.tape,hset.output.trans h.old.output,Nat.le_trans h.old.size hss,fun q hq => (k2 q (Nat.lt_of_lt_of_le hq h.old.size) (by omega)).trans (h.old.block q hq)⟩,h1⟩
theorem RSt.at_ (h : RSt w W b tb s st va vc vs) : StmAt W (fun q => w.heap.size < q ∧ q < W.heap.size) va vc vs st := by
 have h1:=h.tlt
 exact ⟨(AnssAt.of_own h.oa).mono fun q hq => ⟨by omega,hq.2⟩,h.cc.mono fun q hq => ⟨by omega,hq.2.1⟩,(ShwsAt.of_own h.os).mono fun q hq => ⟨by omega,hq.2⟩⟩
theorem RSt.fin {W2 : World} (h : RSt w W b tb s st va vc vs)
  (hW2:W2=(((((W.setCell ⟨w.heap.size,0,none⟩ (.string st.resp)).setCell ⟨w.heap.size,1,none⟩ (.int .i64 st.dep)).setCell ⟨w.heap.size,2,none⟩ (.int .i64 st.day)).setCell ⟨w.heap.size,3,none⟩ va).setCell ⟨w.heap.size,4,none⟩ vc).setCell ⟨w.heap.size,5,none⟩ vs) :
   StmAt W2 (fun b => w.heap.size ≤ b ∧ b < W2.heap.size) va vc vs st ∧ Below w.heap.size w W2 ∧ Blk W2 w.heap.size 29 #[.string st.resp,.int .i64 st.dep,.int .i64 st.day,va,vc,vs]:=by
 have hc:Chg W W2 (fun q => q=w.heap.size):=by
  rw [hW2]
  exact Chg.setCell (Chg.setCell (Chg.setCell (Chg.setCell (Chg.setCell (Chg.setCell (Chg.refl W (fun q => q=w.heap.size)) ⟨w.heap.size,0,none⟩ (fun _ => rfl) _) ⟨w.heap.size,1,none⟩ (fun _ => rfl) _) ⟨w.heap.size,2,none⟩ (fun _ => rfl) _) ⟨w.heap.size,3,none⟩ (fun _ => rfl) _) ⟨w.heap.size,4,none⟩ (fun _ => rfl) _) ⟨w.heap.size,5,none⟩ (fun _ => rfl) _
 have hb:Blk W2 w.heap.size 29 #[.string st.resp,.int .i64 st.dep,.int .i64 st.day,va,vc,vs]:=by
  rw [hW2]
  exact (((((h.res.set_ 0 _).set_ 1 _).set_ 2 _).set_ 3 _).set_ 4 _).set_ 5 _
 have hs:=hc.size
 exact ⟨(h.at_.keep fun q hq => hc.block q hq.2 (by omega)).mono fun q hq => ⟨by omega,by omega⟩,
  ⟨hc.os.trans h.old.os,hc.tape.trans h.old.tape,hc.output.trans h.old.output,Nat.le_trans h.old.size hs,fun q hq => (hc.block q (Nat.lt_of_lt_of_le hq h.old.size) (by omega)).trans (h.old.block q hq)⟩,hb⟩
end
theorem txtR_size {l x : List UInt8} {m : Nat} (h : txtR l = .ok (x,m)) : x.length ≤ l.length := by
 unfold txtR at h
 rcases hr:numR 0 0 l with y | ⟨U,k⟩
 ·rw [hr] at h; cases h
 ·rw [hr] at h
  dsimp only at h
  by_cases h1:unz U < 0
  ·rw [if_pos h1] at h; cases h
  ·rw [if_neg h1] at h
   by_cases h2:((l.length - k:Nat):Int) < unz U
   ·rw [if_pos h2] at h; cases h
   ·rw [if_neg h2] at h
    injection h with h
    injection h with h3 h4
    rw [← h3,List.length_take,List.length_drop]; omega
theorem rdT_size (s : RS) : (rdT s).1.size ≤ s.rest.length ∧ (rdT s).2.rest.length ≤ s.rest.length := by
 unfold rdT
 by_cases h:s.bad=true
 ·rw [if_pos h]; exact ⟨Nat.zero_le _,Nat.le_refl _⟩
 ·rw [if_neg h]
  rcases hr:txtR s.rest with z | ⟨x,m⟩
  ·exact ⟨Nat.zero_le _,Nat.le_refl _⟩
  ·refine ⟨?_,?_⟩
   ·have:=txtR_size hr
    show x.toArray.size ≤ _
    rw [List.size_toArray]; exact this
   ·show (s.rest.drop m).length ≤ _
    rw [List.length_drop]; omega
theorem rdI_rest (s : RS) : (rdI s).2.rest.length ≤ s.rest.length := by
 unfold rdI
 by_cases h:s.bad=true
 ·rw [if_pos h]; exact Nat.le_refl _
 ·rw [if_neg h]
  rcases hr:numR 0 0 s.rest with z | ⟨U,m⟩
  ·exact Nat.le_refl _
  ·show (s.rest.drop m).length ≤ _
   rw [List.length_drop]; omega
def AnsOk (N : Nat) (a : Ans) : Prop := a.field.size ≤ N ∧ a.text.size ≤ N ∧ In64' a.num
def ShwOk (N : Nat) (a : Shw) : Prop := a.field.size ≤ N ∧ a.role.size ≤ N
theorem rdAns_ok {N : Nat} (s : RS) (h : s.rest.length ≤ N) : AnsOk N (rdAns s).1 ∧ (rdAns s).2.rest.length ≤ N := by
 have h1:=rdT_size s
 have h2:=rdT_size (rdT s).2
 have h3:=rdI_rest (rdT (rdT s).2).2
 exact ⟨⟨by show (rdT s).1.size ≤ N; omega,by show (rdT (rdT s).2).1.size ≤ N; omega,rdI_in _⟩,by show (rdI (rdT (rdT s).2).2).2.rest.length ≤ N; omega⟩
theorem rdShw_ok {N : Nat} (s : RS) (h : s.rest.length ≤ N) : ShwOk N (rdShw s).1 ∧ (rdShw s).2.rest.length ≤ N := by
 have h1:=rdT_size s
 have h2:=rdT_size (rdT s).2
 exact ⟨⟨by show (rdT s).1.size ≤ N; omega,by show (rdT (rdT s).2).1.size ≤ N; omega⟩,by show (rdT (rdT s).2).2.rest.length ≤ N; omega⟩
theorem timesR_ok {α : Type} {item : RS → α × RS} {P : α → Prop} {N : Nat} (hi : ∀ s,s.rest.length ≤ N → P (item s).1 ∧ (item s).2.rest.length ≤ N) : ∀ (n : Nat) (s : RS),s.rest.length ≤ N → (timesR item n s).1.length ≤ n ∧ (∀ a ∈ (timesR item n s).1,P a) ∧ (timesR item n s).2.rest.length ≤ N
 | 0,s,h => ⟨Nat.le_refl _,(fun a ha => by cases ha),h⟩
 | n+1,s,h => by
  by_cases hb:s.bad=true
  ·rw [show timesR item (n+1) s=([],s) from if_pos hb]
   exact ⟨Nat.zero_le _,(fun a ha => by cases ha),h⟩
  ·rw [show timesR item (n+1) s=_ from if_neg hb]
   obtain ⟨h1,h2⟩:=hi s h
   obtain ⟨a1,a2,a3⟩:=timesR_ok hi n (item s).2 h2
   refine ⟨by show (timesR item n (item s).2).1.length+1 ≤ n+1; omega,fun a ha => ?_,a3⟩
   rcases List.mem_cons.1 ha with e | e
   ·rw [e]; exact h1
   ·exact a2 a e
theorem rdTimes_ok {α : Type} {item : RS → α × RS} {P : α → Prop} {N : Nat} (hi : ∀ s,s.rest.length ≤ N → P (item s).1 ∧ (item s).2.rest.length ≤ N) (s : RS) (h : s.rest.length ≤ N) : (rdTimes item s).1.length ≤ 256 ∧ (∀ a ∈ (rdTimes item s).1,P a) ∧ (rdTimes item s).2.rest.length ≤ N := by
 have hr:=rdI_rest s
 unfold rdTimes
 by_cases hb:(rdI s).1 < 0 ∨ 256 < (rdI s).1
 ·rw [if_pos hb]; exact ⟨Nat.zero_le _,(fun a ha => by cases ha),by show (rdI s).2.rest.length ≤ N; omega⟩
 ·rw [if_neg hb]
  obtain ⟨a1,a2,a3⟩:=timesR_ok hi (rdI s).1.toNat (rdI s).2 (by omega)
  exact ⟨by omega,a2,a3⟩
theorem parseC_ok (s : List UInt8) : (parseC s).1.length ≤ 4096 ∧ ∀ t ∈ (parseC s).1,TrmLe 4096 t := by
 unfold parseC
 by_cases h:4096 < s.length
 ·rw [if_pos h]; exact ⟨Nat.zero_le _,fun t ht => by cases ht⟩
 ·rw [if_neg h]
  rcases hp:parseF s with T | k
  ·dsimp only
   by_cases hr:rightB (flatT (s.length+1) 0 T)=true
   ·rw [if_pos hr]
    refine ⟨Nat.le_trans (parseF_terms hp _ _) (by omega),fun t ht => ?_⟩
    have:=parseF_tame hp _ _ t ht
    unfold TrmLe at this ⊢
    exact ⟨by omega,by omega,by omega⟩
   ·rw [if_neg hr]; exact ⟨Nat.zero_le _,fun t ht => by cases ht⟩
  ·exact ⟨Nat.zero_le _,fun t ht => by cases ht⟩
theorem rsS_ok (b : ByteArray) (hb : b.size ≤ 16384) : StmOk (rsS b) := by
 have h0:(⟨blOf b,false⟩:RS).rest.length ≤ 16384:=by show (blOf b).length ≤ _; rw [blOf_len]; exact hb
 have h1:(rs1 b).1.size ≤ 16384 ∧ (rs1 b).2.rest.length ≤ 16384:=by
  have:=rdT_size ⟨blOf b,false⟩
  exact ⟨Nat.le_trans this.1 h0,Nat.le_trans this.2 h0⟩
 have h2:(rs2 b).2.rest.length ≤ 16384:=Nat.le_trans (rdI_rest _) h1.2
 have h3:(rs3 b).2.rest.length ≤ 16384:=Nat.le_trans (rdI_rest _) h2
 obtain ⟨a1,a2,a3⟩:=rdTimes_ok (N:=16384) (fun s h => rdAns_ok s h) (rs3 b).2 h3
 have h5:(rs5 b).2.rest.length ≤ 16384:=Nat.le_trans (rdT_size _).2 a3
 obtain ⟨c1,c2,c3⟩:=rdTimes_ok (N:=16384) (fun s h => rdShw_ok s h) (rs5 b).2 h5
 obtain ⟨p1,p2⟩:=parseC_ok (blOf (rs5 b).1)
 refine ⟨by show (rs1 b).1.size ≤ _; omega,rdI_in _,rdI_in _,by show (rs4 b).1.length ≤ _; exact Nat.le_trans a1 (by omega),fun k hk => ?_,by show (rs6 b).1.length ≤ _; exact Nat.le_trans c1 (by omega),fun k hk => ?_,by show (parseC (blOf (rs5 b).1)).1.length ≤ _; omega,fun t ht => ?_⟩
 ·obtain ⟨x,y,z⟩:=a2 _ (ansAt_mem hk)
  exact ⟨Nat.le_trans x (by omega),Nat.le_trans y (by omega),z⟩
 ·obtain ⟨x,y⟩:=c2 _ (shwAt_mem hk)
  exact ⟨Nat.le_trans x (by omega),Nat.le_trans y (by omega)⟩
 ·obtain ⟨x,y,z⟩:=p2 t ht
  exact ⟨by omega,by omega,by omega⟩
end Go.Proofs.YtgdngfdeeadlnaaGreatDoor

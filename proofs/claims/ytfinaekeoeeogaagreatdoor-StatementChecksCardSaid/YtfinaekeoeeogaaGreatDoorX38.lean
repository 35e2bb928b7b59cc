/- Contract: the kit's OddStatement. -/
import Derived.Test.YtfinaekeoeeogaaGreatDoorX36
import Derived.Test.YtfinaekeoeeogaaGreatDoorX37
import Derived.BigRegion
import Derived.Deep.CutRange
import Derived.Deep.CutBlock
import Derived.Laws.BytesArg
import Derived.Laws.OwnMore
import Derived.Deep.Onto
import Derived.OpenShut
set_option linter.unusedVariables false
set_option linter.unusedSimpArgs false
namespace Go.Proofs.YtfinaekeoeeogaaGreatDoor
open Go.RowKit Num
set_option maxRecDepth 100000 in
set_option maxHeartbeats 1000000 in
theorem k_Odd_none (db : Nat) (A : Option Addr) (c : Nat) (w : World) (hd : Dc w db) :
  Calls Tryz.prog 21 #[.pointer (some ⟨db,0,none⟩),.agg #[.slice A 0 c]] w fun e w' => ∃ A' c',e=.returned (.agg #[.slice A' 0 c']) ∧ Dc w' db ∧ w.grownBy w' (some db):=by
 have hlt:=hd.lt
 have hb2:Below w.heap.size w ((w.alloc (.cells #[.slice A 0 c] 26)).alloc (.cells #[.slice none 0 0] 26)):=((Below.refl _ _).alloc (Nat.le_refl _) _).alloc (by simp) _
 have hr0:=blk_two w (.cells #[.slice A 0 c] 26) 26 #[.slice none 0 0]
 have HB2:=Lib.hid hb2
 have HR0:=Lib.hid hr0
 have HD:=Lib.hid hd
 clear hb2 hr0 hd
 go_enter Tryz.func21,Tryz.ntmps21
 go_wp2_with (at_builtin; refine wpList_copy_none rfl _ _ rfl rfl A c rfl ?_)
 intro v' w1 hown hb1
 obtain ⟨A2,c2,hv2⟩:=own_slice hown
 subst hv2
 have hbw:=HB2.out.trans (hb1.mono (by omega))
 have hr1:=(HR0.out.below' hb1 (by omega)).alloc (.cells #[.slice A2 0 c2] 26)
 have hc1:=Blk.new w1 26 #[.slice A2 0 c2]
 have z0:=(hc1.cell 0).trans (show _=some (Value.slice A2 0 c2) from rfl)
 have z1:=(hr1.cell 0).trans (show _=some (Value.slice none 0 0) from rfl)
 have z2:=hr1.frozen 0
 have HBW:=Lib.hid (hbw.alloc hbw.size (.cells #[.slice A2 0 c2] 26))
 have hrl:=hr1.lt
 have HR1:=Lib.hid hr1
 clear hbw hr1 hc1 hown hb1 HB2 HR0
 go_wp2_with fail
 refine bodyPost_ret (v:=.agg #[.slice A2 0 c2]) ?_ rfl ?_
 ·have e1:=World.cell?_setCell_same _ _ (.slice A2 0 c2) z1
  simp [results,Tryz.results21,go_sem,e1]
 ·have hc:=chg_set (w1.alloc (.cells #[.slice A2 0 c2] 26)) (w.heap.size+1) 0 (.slice A2 0 c2)
  have hs:=hc.size
  refine ⟨A2,c2,rfl,HD.out.keep fun q hq => (hc.block q (by omega) (by omega)).trans (HBW.out.block q (by omega)),⟨hc.os.trans HBW.out.os,hc.tape.trans HBW.out.tape,hc.output.trans HBW.out.output,Nat.le_trans HBW.out.size hs,fun q hq hne => (hc.block q (Nat.lt_of_lt_of_le hq HBW.out.size) (by omega)).trans (HBW.out.block q hq)⟩⟩
theorem k_OddC (S : Nat → Prop) (K db : Nat) (A : Option Addr) (n c : Nat) (L : List Trm) (w : World) (hd : Dc w db) (hS : ∀ q,S q → q ≠ db ∧ q < w.heap.size) (hv : TermsAt w S (.slice A n c) L) (h2 : L.length ≤ 100000) (hK : 3 ≤ K ∧ K ≤ 100000) (hok : ∀ t ∈ L,TrmB K t) :
  Calls Tryz.prog 21 #[.pointer (some ⟨db,0,none⟩),.agg #[.slice A n c]] w (OddE w S db L.length (K+1)):=by
 obtain ⟨A',n',c',he,hn,hnc,h4⟩:=id hv
 injection he with e1 e2 e3
 subst e1 e2 e3
 by_cases h0:n=0
 ·subst h0
  have hL:L = []:=List.eq_nil_of_length_eq_zero hn.symm
  subst hL
  refine (k_Odd_none db A c w hd).mono ?_
  rintro e w' ⟨A2,c2,rfl,hd',hg'⟩
  exact ⟨A2,0,c2,[],rfl,⟨A2,0,c2,rfl,rfl,Nat.zero_le _,fun h => absurd h (Nat.lt_irrefl 0)⟩,Nat.zero_le _,(fun t ht => by cases ht),hd',hg'⟩
 ·obtain ⟨b,off,rfl,-⟩:=h4 (by omega)
  rw [← hn]
  exact k_Odd_some S K db b off n c L w hd hS hv hn (by omega) (by omega) hK hok
theorem row_below {W W' : World} {B : Nat} {e : TypeId} {size : Nat} {v : Value} {n : Nat} {xs : List Value} (h : W.ownsRow B e size v n xs) (hb : Below W.heap.size W W') : W'.ownsRow B e size v n xs := by
 refine h.kept (only_of_below hb none) ?_
 rcases hq:v.ownBlock with _ | q
 ·exact .inl rfl
 ·exact .inr (by simp)
theorem ost_start {w W : World} {S : Nat → Prop} {db K : Nat} {s : Stm} {va vc vs a0 s0 : Value} (hS : ∀ q,S q → q ≠ db ∧ q < w.heap.size) (hd : Dc w db) (hb : Below w.heap.size w W) (hk : StmB K s) (hcc : TermsAt w S vc s.cond)
  (hbk:Blk W w.heap.size 29 #[.string s.resp,.int .i64 s.dep,.int .i64 s.day,a0,vc,s0]) (hr:Blk W (w.heap.size+1) 29 stmZ) (oa:W.ownsRow (w.heap.size+2) 47 3 va s.ans.length (ansC s.ans)) (os:W.ownsRow (w.heap.size+2) 49 2 vs s.shw.length (shwC s.shw)) :
  OSt w ((W.setCell ⟨w.heap.size,3,none⟩ va).setCell ⟨w.heap.size,5,none⟩ vs) S db K s va vc vs ∧ (W.cell? ⟨w.heap.size,3,none⟩=some a0 ∧ W.frozen? ⟨w.heap.size,3,none⟩=false) ∧ (W.setCell ⟨w.heap.size,3,none⟩ va).cell? ⟨w.heap.size,5,none⟩=some s0 ∧ (W.setCell ⟨w.heap.size,3,none⟩ va).frozen? ⟨w.heap.size,5,none⟩=false:=by
 have hlt:=hd.lt
 have h1:Blk (W.setCell ⟨w.heap.size,3,none⟩ va) w.heap.size 29 #[.string s.resp,.int .i64 s.dep,.int .i64 s.day,va,vc,s0]:=hbk.set_ 3 va
 have h2:Blk ((W.setCell ⟨w.heap.size,3,none⟩ va).setCell ⟨w.heap.size,5,none⟩ vs) w.heap.size 29 #[.string s.resp,.int .i64 s.dep,.int .i64 s.day,va,vc,vs]:=h1.set_ 5 vs
 have hg:=gb_trans (grown_setCell W ⟨w.heap.size,3,none⟩ va) (grown_setCell (W.setCell ⟨w.heap.size,3,none⟩ va) ⟨w.heap.size,5,none⟩ vs)
 have kb:∀ q,q < W.heap.size → q ≠ w.heap.size → ((W.setCell ⟨w.heap.size,3,none⟩ va).setCell ⟨w.heap.size,5,none⟩ vs).heap[q]?=W.heap[q]?:=fun q hq hne => hg.block q hq (fun e => hne (Option.some.inj e))
 have hrl:=hr.lt
 have hbs:=hb.size
 refine ⟨⟨hS,hlt,hd.keep fun q hq => (kb q (by omega) (by omega)).trans (hb.block q (by omega)),h2,(kb _ hrl (by omega)).trans hr,oa.kept hg (.inr fun e => by have:=(oa.lt w.heap.size e).1; omega),os.kept hg (.inr fun e => by have:=(os.lt w.heap.size e).1; omega),
  hcc.keep fun q hq => (kb q (by have:=(hS q hq).2; omega) (by have:=(hS q hq).2; omega)).trans (hb.block q (hS q hq).2),⟨hg.os.trans hb.os,hg.tape.trans hb.tape,hg.output.trans hb.output,Nat.le_trans hb.size hg.size,fun q hq hne => (kb q (by omega) (by omega)).trans (hb.block q hq)⟩,hk⟩,
  ⟨(hbk.cell 3).trans rfl,hbk.frozen 3⟩,(h1.cell 5).trans rfl,h1.frozen 5⟩
def FinS (w W : World) (S : Nat → Prop) (db K : Nat) : Prop := ∃ (s : Stm) (Aa : Option Addr) (na ca : Nat) (Ac : Option Addr) (nc cc : Nat) (As : Option Addr) (ns cs : Nat),
 Blk W w.heap.size 29 #[.string s.resp,.int .i64 s.dep,.int .i64 s.day,.slice Aa na ca,.slice Ac nc cc,.slice As ns cs] ∧ Blk W (w.heap.size+1) 29 stmZ ∧
 ∀ W2,W2=(((((W.setCell ⟨w.heap.size+1,0,none⟩ (.string s.resp)).setCell ⟨w.heap.size+1,1,none⟩ (.int .i64 s.dep)).setCell ⟨w.heap.size+1,2,none⟩ (.int .i64 s.day)).setCell ⟨w.heap.size+1,3,none⟩ (.slice Aa na ca)).setCell ⟨w.heap.size+1,4,none⟩ (.slice Ac nc cc)).setCell ⟨w.heap.size+1,5,none⟩ (.slice As ns cs) →
  OStE w S db K (.returned (.agg #[.string s.resp,.int .i64 s.dep,.int .i64 s.day,.slice Aa na ca,.slice Ac nc cc,.slice As ns cs])) W2 ∧ Blk W2 (w.heap.size+1) 29 #[.string s.resp,.int .i64 s.dep,.int .i64 s.day,.slice Aa na ca,.slice Ac nc cc,.slice As ns cs]
theorem OStE.mono {w w' : World} {S : Nat → Prop} {db K K' : Nat} {e : Ending} (h : OStE w S db K e w') (hk : K ≤ K') : OStE w S db K' e w' := by
 obtain ⟨s,Aa,na,ca,Ac,nc,cc,As,ns,cs,h1,h2,h3,h4,h5⟩:=h
 exact ⟨s,Aa,na,ca,Ac,nc,cc,As,ns,cs,h1,h2,h3.mono hk,h4,h5⟩
theorem OSt.finS {w W : World} {S : Nat → Prop} {db K K' : Nat} {s : Stm} {va vc vs : Value} (h : OSt w W S db K s va vc vs) (hk : K ≤ K') : FinS w W S db K' := by
 obtain ⟨Aa,na,ca,Ac,nc,cc,As,ns,cs,rfl,rfl,rfl,hf⟩:=h.fin
 exact ⟨s,Aa,na,ca,Ac,nc,cc,As,ns,cs,h.blk,h.res,fun W2 hW2 => ⟨(hf W2 hW2).1.mono hk,(hf W2 hW2).2⟩⟩
theorem OSt.finC {w W : World} {S : Nat → Prop} {db K : Nat} {s : Stm} {va vc vs : Value} (h : OSt w W S db K s va vc vs) {A : Option Addr} {n c B : Nat} {L : List Trm} (hT : TermsAt W (fun b => (S b ∨ B ≤ b) ∧ b < W.heap.size) (.slice A n c) L) (hB : w.heap.size + 2 ≤ B) {K' : Nat} (hK : K ≤ K') (hl : L.length ≤ K') (hok : ∀ t ∈ L,TrmB K' t) : FinS w (W.setCell ⟨w.heap.size,4,none⟩ (.slice A n c)) S db K' := by
 obtain ⟨h1,h2,Aa,na,ca,As,ns,cs,rfl,rfl,hf⟩:=h.setC hT hB hK hl hok
 exact ⟨{ s with cond:=L },Aa,na,ca,A,n,c,As,ns,cs,h1,h2,fun W2 hW2 => hf W2 hW2⟩
section
variable {w W : World} {S : Nat → Prop} {db K g n cap k : Nat} {s : Stm} {vc vs : Value}
theorem OSt.aText (h : OSt w W S db K s (.slice (some ⟨g,0,none⟩) n cap) vc vs) (hn : n = s.ans.length) (hk : k < n) : W.cell? ⟨g,k * 3 + 1,none⟩ = some (.string (ansAt s.ans k).text) := by
 subst hn; exact own_cell h.oa _ _ (ansC_at s.ans k hk).2.1
theorem OSt.aFz (h : OSt w W S db K s (.slice (some ⟨g,0,none⟩) n cap) vc vs) (hn : n = s.ans.length) (i : Nat) : W.frozen? ⟨g,i,none⟩ = false := by
 subst hn; exact own_frozen h.oa i
theorem OSt.aNum (h : OSt w W S db K s (.slice (some ⟨g,0,none⟩) n cap) vc vs) (hn : n = s.ans.length) (hk : k < n) : W.cell? ⟨g,k * 3 + 2,none⟩ = some (.int .i64 (ansAt s.ans k).num) := by
 subst hn; exact own_cell h.oa _ _ (ansC_at s.ans k hk).2.2
theorem OSt.aNum2 (h : OSt w W S db K s (.slice (some ⟨g,0,none⟩) n cap) vc vs) (hn : n = s.ans.length) (hk : k < n) (x : Value) : (W.setCell ⟨g,k * 3 + 1,none⟩ x).cell? ⟨g,k * 3 + 2,none⟩ = some (.int .i64 (ansAt s.ans k).num) := by
 subst hn
 obtain ⟨o1,g1⟩:=World.ownsRow.stored h.oa (k*3+1) x
 refine own_cell o1 (k*3+2) _ ?_
 rw [List.getElem?_set_ne (by omega)]
 exact (ansC_at s.ans k hk).2.2
theorem OSt.aFz2 (h : OSt w W S db K s (.slice (some ⟨g,0,none⟩) n cap) vc vs) (hn : n = s.ans.length) (hk : k < n) (x : Value) : (W.setCell ⟨g,k * 3 + 1,none⟩ x).frozen? ⟨g,k * 3 + 2,none⟩ = false := by
 subst hn
 obtain ⟨o1,g1⟩:=World.ownsRow.stored h.oa (k*3+1) x
 exact own_frozen o1 _
end
theorem made_zero (i : Nat) (h : i < 257) : (madeCells (Value.int .u8 0).cells (257 * 1)).toList[i]? = some (.int .u8 0) := by
 unfold madeCells
 simp [Value.cells,h,Nat.mod_one]
theorem infoU8 : (Tryz.prog.info? 5).map (fun i => (i.zero,i.size,i.bytes)) = some (some (.int .u8 0),1,1) := by kernel_rfl
set_option maxRecDepth 100000 in
set_option maxHeartbeats 16000000 in
theorem k_OddStatement (S : Nat → Prop) (K db : Nat) (s : Stm) (Aa : Option Addr) (na ca : Nat) (Ac : Option Addr) (nc cc : Nat) (As : Option Addr) (ns cs : Nat) (w : World) (hd : Dc w db) (hS : ∀ q,S q → q ≠ db ∧ q < w.heap.size) (h : StmAt w S (.slice Aa na ca) (.slice Ac nc cc) (.slice As ns cs) s) (hk : StmB K s) (hK : 1000 ≤ K ∧ K ≤ 50000) :
    Calls Tryz.prog 10 #[.pointer (some ⟨db,0,none⟩),.agg #[.string s.resp,.int .i64 s.dep,.int .i64 s.day,.slice Aa na ca,.slice Ac nc cc,.slice As ns cs]] w (OStE w S db (K+1000)):=by
  obtain ⟨i0,hi,hz0,hz1,hz2⟩:=info_parts infoAn
  obtain ⟨j0,hj,hy0,hy1,hy2⟩:=info_parts infoSw
  obtain ⟨u0,hu,hu0,hu1,hu2⟩:=info_parts infoU8
  have hmx:Tryz.prog.follows .mixedOrders=true:=by kernel_rfl
  have hlt:=hd.lt
  have hKl:=hK.2
  have hKg:=hK.1
  have hna:s.ans.length ≤ 50000:=Nat.le_trans hk.an hKl
  have hns:s.shw.length ≤ 50000:=Nat.le_trans hk.sn hKl
  have hnc:s.cond.length ≤ 50000:=Nat.le_trans hk.cn hKl
  obtain ⟨w2,hw2⟩:∃ w2,(w.alloc (.cells #[.string s.resp,.int .i64 s.dep,.int .i64 s.day,.slice Aa na ca,.slice Ac nc cc,.slice As ns cs] 29)).alloc (.cells #[.string ⟨#[]⟩,.int .i64 0,.int .i64 0,.slice none 0 0,.slice none 0 0,.slice none 0 0] 29)=w2:=⟨_,rfl⟩
  have hb2:Below w.heap.size w w2:=by rw [← hw2]; exact ((Below.refl _ _).alloc (Nat.le_refl _) _).alloc (by simp) _
  have hbk:Blk w2 w.heap.size 29 #[.string s.resp,.int .i64 s.dep,.int .i64 s.day,.slice Aa na ca,.slice Ac nc cc,.slice As ns cs]:=by rw [← hw2]; exact (Blk.new w _ _).alloc _
  have hbr:Blk w2 (w.heap.size+1) 29 stmZ:=by rw [← hw2]; exact blk_two w _ _ _
  have haa:∀ W,Below w2.heap.size w2 W → AnssAt W S (.slice Aa na ca) s.ans:=fun W hW => h.aa.keep fun b hB => ((hb2.trans (hW.mono hb2.size)).block b (hS b hB).2)
  have hss:∀ W,Below w2.heap.size w2 W → ShwsAt W S (.slice As ns cs) s.shw:=fun W hW => h.ss.keep fun b hB => ((hb2.trans (hW.mono hb2.size)).block b (hS b hB).2)
  have hfin:∀ (W:World) (va vs:Value),Below w2.heap.size w2 W → W.ownsRow (w.heap.size+2) 47 3 va s.ans.length (ansC s.ans) → W.ownsRow (w.heap.size+2) 49 2 vs s.shw.length (shwC s.shw) → OSt w ((W.setCell ⟨w.heap.size,3,none⟩ va).setCell ⟨w.heap.size,5,none⟩ vs) S db K s va (.slice Ac nc cc) vs ∧ (W.cell? ⟨w.heap.size,3,none⟩=some (.slice Aa na ca) ∧ W.frozen? ⟨w.heap.size,3,none⟩=false) ∧ (W.setCell ⟨w.heap.size,3,none⟩ va).cell? ⟨w.heap.size,5,none⟩=some (.slice As ns cs) ∧ (W.setCell ⟨w.heap.size,3,none⟩ va).frozen? ⟨w.heap.size,5,none⟩=false :=
    fun W va vs hW oa os => ost_start hS hd (hb2.trans (hW.mono hb2.size)) hk h.cc (hbk.below' hW hbk.lt) (hbr.below' hW hbr.lt) oa os
  have hcel:∀ W,Below w2.heap.size w2 W → W.cell? ⟨w.heap.size,3,none⟩=some (.slice Aa na ca) ∧ W.cell? ⟨w.heap.size,5,none⟩=some (.slice As ns cs):=fun W hW => ⟨((hbk.below' hW hbk.lt).cell 3).trans rfl,((hbk.below' hW hbk.lt).cell 5).trans rfl⟩
  have hs2:w2.heap.size=w.heap.size+2:=by rw [← hw2]; simp
  have HAA:=Lib.hid haa
  have HSS:=Lib.hid hss
  have HFIN:=Lib.hid hfin
  have HCEL:=Lib.hid hcel
  have HK:=Lib.hid hk
  have HSI:=Lib.hid hS
  have B0:Hid (Below w2.heap.size w2 w2.drew):=Lib.hid (Below.refl _ _).drew
  have c3:=(hcel _ B0.out).1
  have c5:=(hcel _ B0.out).2
  clear haa hss hfin hcel hb2 hbk hbr hd hS h hk
  go_enter Tryz.func10,Tryz.ntmps10
  go_upto_region 1 with fail
  try rw [hw2]
  clear hw2
  go_cut [] from 6 to 13 (fun wx => ∃ va vs,OSt w wx S db K s va (.slice Ac nc cc) vs)
  case first =>
    go_region_law (first
      | (refine step_copy_answers (w:=w2.drew) (by rfl) (.const (.slice none 0 0)) _ (by rfl) (by rfl) S Aa na ca s.ans (HAA.out _ B0.out) (by rfl) (by omega) ?_
         intro va wA hoA hbA
         obtain ⟨Av,cv,hv⟩:=own_slice hoA
         subst hv
         have BA:=Lib.hid (B0.out.trans (hbA.mono B0.out.size))
         have OA:=Lib.hid (World.ownsRow.mono hoA (base':=w.heap.size+2) (by rw [show w2.drew.heap.size=w2.heap.size from rfl]; omega))
         have c3:=(HCEL.out _ BA.out).1
         have c5:=(HCEL.out _ BA.out).2
         clear hoA hbA)
      | (refine step_copy_shows (w:=wA) (by rfl) (.const (.slice none 0 0)) _ (by rfl) (by rfl) S As ns cs s.shw (HSS.out _ BA.out) (by rfl) (by omega) ?_
         intro vs wS hoS hbS
         obtain ⟨Sv,cs',hv⟩:=own_slice hoS
         subst hv
         have BS:=Lib.hid (BA.out.trans (hbS.mono BA.out.size))
         have HF:=Lib.hid (HFIN.out wS (.slice Av s.ans.length cv) (.slice Sv s.shw.length cs') BS.out (row_below OA.out hbS) (World.ownsRow.mono hoS (base':=w.heap.size+2) (by have:=BA.out.size; omega)))
         have c3:=HF.out.2.1.1
         have f3:=HF.out.2.1.2
         have c5:=HF.out.2.2.1
         have f5:=HF.out.2.2.2
         clear hoS hbS))
    all_goals
      go_wp2_with fail
      go_meet
      exact ⟨_,_,HF.out.1⟩
  case rest =>
  obtain ⟨va,vs,hO⟩:=hcut
  rename World => w5
  have HO:=Lib.hid hO
  clear hO HAA HSS HFIN HCEL B0 c3 c5 hs2
  go_wp2_with fail
  refine (HO.out.next 10 (by omega) (by omega)).mono ?_
  rintro e w6 ⟨r,hr,rfl,h6,-⟩
  have H6:=Lib.hid h6
  have hl6:=h6.lt
  clear h6 HO
  go_upto_block 0 with fail
  go_cut [] from 16 to 126 (fun wx => FinS w wx S db (K+1000))
  case first =>
    have h10:r=0 ∨ r=1 ∨ r=2 ∨ r=3 ∨ r=4 ∨ r=5 ∨ r=6 ∨ r=7 ∨ 8 ≤ r:=by omega
    rcases h10 with rfl | rfl | rfl | rfl | rfl | rfl | rfl | rfl | h8
    · as_aux_lemma =>
      obtain ⟨wm,hms,hom,hgm⟩:=run_makeSlice_full (P:=Tryz.prog) (w:=w6) w6.heap.size 66 5 u0 (.int .u8 0) 1 Tryz.underlying66 hu hu0 hu1 .i64 .i64 257 (by decide) (by rw [hu2]; decide) (by decide) (Nat.le_refl _)
      have hms':(Instr.makeSlice 66 (.int .i64 257) (.int .i64 257)).run Tryz.prog w6=.ok (.slice (some ⟨w6.heap.size,0,none⟩) 257 257) wm:=hms
      have hcv:=run_convert_bytes_arg (P:=Tryz.prog) wm 66 5 Tryz.underlying66 Tryz.underlying5 w6.heap.size 0 257 257 (List.replicate 257 0) (by rw [List.length_replicate]) (fun i hi => by
        rw [Nat.zero_add]
        refine (own_cell hom i _ (made_zero i hi)).trans ?_
        rw [List.getD_eq_getElem?_getD,List.getElem?_replicate,if_pos hi]
        rfl) 9 Tryz.underlying9
      obtain ⟨x,hx⟩:∃ x,strOfNums (List.replicate 257 0)=x:=⟨_,rfl⟩
      have hxs:x.size ≤ 1000:=by rw [← hx,strOfNums_size,List.length_replicate]; decide
      rw [hx] at hcv
      have hm:=H6.out.keep (W':=wm) (row:=none) (H6.out.dc.keep fun q hq => hgm.block q (by have:=H6.out.dc.lt; omega) (by intro e; cases e)) hgm (fun q hq => by cases hq)
      have HM:=Lib.hid hm
      clear hx hom hgm hms hm
      go_wp2_with fail
      have hx0:=HM.out.alloc (.cells #[.string ⟨#[]⟩,.string ⟨#[120]⟩,.string x] 9)
      have hbw:=Blk.new wm 9 #[.string ⟨#[]⟩,.string ⟨#[120]⟩,.string x]
      have hlm:=HM.out.lt
      refine (hx0.word [⟨#[]⟩,⟨#[120]⟩,x] 3 hbw (by omega) rfl (by omega) (by omega) (by intro y hy; simp at hy; rcases hy with rfl | rfl | rfl; exact Nat.zero_le _; decide; exact hxs)).mono ?_
      rintro e w8 ⟨y,hy,rfl,h8,-⟩
      have H8:=Lib.hid h8
      have c0:=(h8.blk.cell 0).trans (show _=some (Value.string s.resp) from rfl)
      have g0:=h8.fz 0
      clear h8 hx0 hbw
      go_wp2_with fail
      go_meet
      exact (H8.out.setR y (K':=K+1000) (by omega) (by omega)).finS (Nat.le_refl _)
    · as_aux_lemma =>
      go_wp2_with fail
      have hs6:=H6.out.alloc (.cells #[.int .i64 (-1),.int .i64 63,.int .i64 64] 3)
      refine (hs6.next 3 (by omega) (by omega)).mono ?_
      rintro e w7 ⟨r9,hr9,rfl,h7,hg7⟩
      have hb7:Blk w7 w6.heap.size 3 #[.int .i64 (-1),.int .i64 63,.int .i64 64]:=(hg7.block w6.heap.size (by simp) (by intro e; injection e; omega)).trans (Blk.new w6 _ _)
      obtain ⟨x,hx,hx64⟩:∃ x:Int,w7.cell? ⟨w6.heap.size,r9,none⟩=some (.int .i64 x) ∧ In64' x:=by
        have h9:r9=0 ∨ r9=1 ∨ r9=2:=by omega
        rcases h9 with rfl | rfl | rfl
        · exact ⟨_,hb7.cell 0,by decide⟩
        · exact ⟨_,hb7.cell 1,by decide⟩
        · exact ⟨_,hb7.cell 2,by decide⟩
      have H7:=Lib.hid h7
      have c0:=(h7.blk.cell 1).trans (show _=some (Value.int .i64 s.dep) from rfl)
      have g0:=h7.fz 1
      have z9:(r9:Int) < 3:=by omega
      have z90:(0:Int) ≤ (r9:Int):=by omega
      clear h7 hg7 hs6 hb7
      go_wp2_with fail
      go_meet
      exact (H7.out.setD x hx64 (Nat.le_refl K)).finS (by omega)
    · as_aux_lemma =>
      go_wp2_with fail
      have hs6:=H6.out.alloc (.cells #[.int .i64 (-1),.int .i64 0,.int .i64 3652058,.int .i64 3652059] 3)
      refine (hs6.next 4 (by omega) (by omega)).mono ?_
      rintro e w7 ⟨r9,hr9,rfl,h7,hg7⟩
      have hb7:Blk w7 w6.heap.size 3 #[.int .i64 (-1),.int .i64 0,.int .i64 3652058,.int .i64 3652059]:=(hg7.block w6.heap.size (by simp) (by intro e; injection e; omega)).trans (Blk.new w6 _ _)
      obtain ⟨x,hx,hx64⟩:∃ x:Int,w7.cell? ⟨w6.heap.size,r9,none⟩=some (.int .i64 x) ∧ In64' x:=by
        have h9:r9=0 ∨ r9=1 ∨ r9=2 ∨ r9=3:=by omega
        rcases h9 with rfl | rfl | rfl | rfl
        · exact ⟨_,hb7.cell 0,by decide⟩
        · exact ⟨_,hb7.cell 1,by decide⟩
        · exact ⟨_,hb7.cell 2,by decide⟩
        · exact ⟨_,hb7.cell 3,by decide⟩
      have H7:=Lib.hid h7
      have c0:=(h7.blk.cell 2).trans (show _=some (Value.int .i64 s.day) from rfl)
      have g0:=h7.fz 2
      have z9:(r9:Int) < 4:=by omega
      have z90:(0:Int) ≤ (r9:Int):=by omega
      clear h7 hg7 hs6 hb7
      go_wp2_with fail
      go_meet
      exact (H7.out.setY x hx64 (Nat.le_refl K)).finS (by omega)
    · as_aux_lemma =>
      have c3:=H6.out.drew.c3
      have HD7:=Lib.hid H6.out.drew
      go_upto_region 10 with fail
      refine wp_region_last_lit _ _ (fun W => W.cell? ⟨w.heap.size,3,none⟩=some va) hmx rfl (by kernel_rfl) c3 (fun hHeld => ?_)
      simp only [List.dropLast]
      refine t1 0 rfl ?_
      try simp only [pt]
      refine t1 1 rfl ?_
      try simp only [pt]
      refine t1 2 rfl ?_
      try simp only [pt]
      refine t1 5 rfl ?_
      try simp only [pt]
      refine t1 8 rfl ?_
      try simp only [pt]
      refine wpAnyH_ready (rs:=[3,6]) (by kernel_rfl) (by simp) ?_
      refine AllReadyH.cons rfl (fun Kc hKc => ?_) (AllReadyH.cons rfl (fun Kc hKc => ?_) AllReadyH.nil)
      · go_simp
        have G1:=Lib.hid (HD7.out.alloc (.cells #[.string ⟨#[119,104,97,116]⟩,.string ⟨#[107,105,110,100]⟩,.string ⟨#[110,111,116,104,105,110,103]⟩,.string ⟨#[]⟩] 9))
        have hq1:Blk (w6.drew.alloc (.cells #[.string ⟨#[119,104,97,116]⟩,.string ⟨#[107,105,110,100]⟩,.string ⟨#[110,111,116,104,105,110,103]⟩,.string ⟨#[]⟩] 9)) (w6.heap.size) 9 #[.string ⟨#[119,104,97,116]⟩,.string ⟨#[107,105,110,100]⟩,.string ⟨#[110,111,116,104,105,110,103]⟩,.string ⟨#[]⟩]:=by
          have h:=Blk.new w6.drew 9 #[.string ⟨#[119,104,97,116]⟩,.string ⟨#[107,105,110,100]⟩,.string ⟨#[110,111,116,104,105,110,103]⟩,.string ⟨#[]⟩]
          first | exact h | (rw [World.size_alloc] at h; exact h)
        have Q1:=Lib.hid hq1
        clear hq1
        refine hKc.out _ _ G1.out.c3 (fun hHeld => ?_)
        clear hKc Kc
        try simp only [pt]
        refine wpAnyH_ready (rs:=[4,6]) (by kernel_rfl) (by simp) ?_
        refine AllReadyH.cons rfl (fun Kc hKc => ?_) (AllReadyH.cons rfl (fun Kc hKc => ?_) AllReadyH.nil)
        · go_simp
          refine (G1.out.word [⟨#[119,104,97,116]⟩,⟨#[107,105,110,100]⟩,⟨#[110,111,116,104,105,110,103]⟩,⟨#[]⟩] 4 Q1.out (by omega) rfl (by omega) (by omega) (by decide)).mono ?_
          rintro e v2 ⟨xa,hxa,rfl,hz,hgz⟩
          have G2:=Lib.hid hz
          have hl2:=G2.out.lt
          clear hz hgz
          refine hKc.out _ _ G2.out.c3 (fun hHeld => ?_)
          clear hKc Kc
          try simp only [pt]
          refine wpAnyH_ready (rs:=[6]) (by kernel_rfl) (by simp) ?_
          refine AllReadyH.cons rfl (fun Kc hKc => ?_) AllReadyH.nil
          go_simp
          have G3:=Lib.hid (G2.out.alloc (.cells #[.string ⟨#[]⟩,.string ⟨#[120]⟩,.string ⟨#[119,111,114,100,115]⟩] 9))
          have hq3:Blk (v2.alloc (.cells #[.string ⟨#[]⟩,.string ⟨#[120]⟩,.string ⟨#[119,111,114,100,115]⟩] 9)) (v2.heap.size) 9 #[.string ⟨#[]⟩,.string ⟨#[120]⟩,.string ⟨#[119,111,114,100,115]⟩]:=by
            have h:=Blk.new v2 9 #[.string ⟨#[]⟩,.string ⟨#[120]⟩,.string ⟨#[119,111,114,100,115]⟩]
            first | exact h | (rw [World.size_alloc] at h; exact h)
          have Q3:=Lib.hid hq3
          clear hq3
          refine hKc.out _ _ G3.out.c3 (fun hHeld => ?_)
          clear hKc Kc
          try simp only [pt]
          refine wpAnyH_ready (rs:=[7]) (by kernel_rfl) (by simp) ?_
          refine AllReadyH.cons rfl (fun Kc hKc => ?_) AllReadyH.nil
          go_simp
          refine (G3.out.word [⟨#[]⟩,⟨#[120]⟩,⟨#[119,111,114,100,115]⟩] 3 Q3.out (by omega) rfl (by omega) (by omega) (by decide)).mono ?_
          rintro e v4 ⟨xb,hxb,rfl,hz,hgz⟩
          have G4:=Lib.hid hz
          have hl4:=G4.out.lt
          clear hz hgz
          refine hKc.out _ _ G4.out.c3 (fun hHeld => ?_)
          clear hKc Kc
          try simp only [pt]
          refine wpAnyH_ready (rs:=[9]) (by kernel_rfl) (by simp) ?_
          refine AllReadyH.cons rfl (fun Kc hKc => ?_) AllReadyH.nil
          go_simp
          refine (G4.out.next 2 (by omega) (by omega)).mono ?_
          rintro e v5 ⟨r2,hr2,rfl,hz,hgz⟩
          have G5:=Lib.hid hz
          have hl5:=G5.out.lt
          clear hz hgz
          refine hKc.out _ _ G5.out.c3 (fun hHeld => ?_)
          clear hKc Kc
          try simp only [pt]
          refine t1 10 rfl ?_
          try simp only [pt]
          refine wpAnyH_ready (rs:=[11]) (by kernel_rfl) (by simp) ?_
          refine AllReadyH.cons rfl (fun Kc hKc => ?_) AllReadyH.nil
          go_simp
          refine hKc.out _ _ (G5.out.alloc _).c3 (fun hHeld => ?_)
          clear hKc Kc
          try simp only [pt]
          refine wpAnyH_ready (rs:=[12]) (by kernel_rfl) (by simp) ?_
          refine AllReadyH.cons rfl (fun Kc hKc => ?_) AllReadyH.nil
          have OW:=Lib.hid G5.out.oa
          have hlc:=G5.out.lt
          refine step_append_lies _ (by rfl) _ _ _ (by rfl) (w.heap.size+2) 47 i0 (.agg #[.string ⟨#[]⟩,.string ⟨#[]⟩,.int .i64 0]) 3 40 Tryz.underlying23 hi hz0 hz1 hz2 rfl (by omega) va s.ans.length (ansC s.ans) (by rfl) (OW.out.alloc _) ⟨v5.heap.size,0,none⟩ 1 1 [.string xa,.string xb,.int .i64 (r2:Int)] (by rfl) (by rfl) (World.news_of_block (cs:=#[.string xa,.string xb,.int .i64 (r2:Int)]) (t:=47) (fr:=(0,0)) (heap_alloc_new v5 _)) (by intro u hu; simp at hu; rcases hu with rfl | rfl | rfl <;> rfl) (by omega) (by simp only [maxLen]; omega) (by omega) (by simp; omega) (v5.heap.size+1) (by simp) ?_
          intro gg cap w12 hown12 hgr12 hat12 hlt12
          have MO:=Lib.hid (G5.out.pushA (K':=K+1000) (a:=⟨xa,xb,(r2:Int)⟩) hown12 hgr12 (by omega) ⟨by show xa.size ≤ _; omega,by show xb.size ≤ _; omega,by show -9223372036854775808 ≤ (r2:Int) ∧ (r2:Int) < 9223372036854775808; omega⟩)
          have mc:=MO.out.2.1
          have mf:=MO.out.2.2
          clear hown12 hgr12 hat12 OW
          refine hKc.out _ _ mc (fun hHeld => ?_)
          clear hKc Kc
          try simp only [pt]
          refine t1 13 rfl ?_
          try simp only [pt]
          refine wpAnyH_done (by kernel_rfl) ?_ _
          refine lastQ_step (by rfl) (by rfl) ?_
          go_simp
          (try go_wp2_with fail)
          go_meet
          exact MO.out.1.finS (Nat.le_refl _)
        · go_simp
          have G8:=Lib.hid (G1.out.alloc (.cells #[.string ⟨#[]⟩,.string ⟨#[120]⟩,.string ⟨#[119,111,114,100,115]⟩] 9))
          have hq8:Blk ((w6.drew.alloc (.cells #[.string ⟨#[119,104,97,116]⟩,.string ⟨#[107,105,110,100]⟩,.string ⟨#[110,111,116,104,105,110,103]⟩,.string ⟨#[]⟩] 9)).alloc (.cells #[.string ⟨#[]⟩,.string ⟨#[120]⟩,.string ⟨#[119,111,114,100,115]⟩] 9)) (w6.heap.size+1) 9 #[.string ⟨#[]⟩,.string ⟨#[120]⟩,.string ⟨#[119,111,114,100,115]⟩]:=by
            have h:=Blk.new (w6.drew.alloc (.cells #[.string ⟨#[119,104,97,116]⟩,.string ⟨#[107,105,110,100]⟩,.string ⟨#[110,111,116,104,105,110,103]⟩,.string ⟨#[]⟩] 9)) 9 #[.string ⟨#[]⟩,.string ⟨#[120]⟩,.string ⟨#[119,111,114,100,115]⟩]
            first | exact h | (rw [World.size_alloc] at h; exact h)
          have Q8:=Lib.hid hq8
          clear hq8
          have Q1_8:=Lib.hid (Q1.out.alloc (.cells #[.string ⟨#[]⟩,.string ⟨#[120]⟩,.string ⟨#[119,111,114,100,115]⟩] 9))
          refine hKc.out _ _ G8.out.c3 (fun hHeld => ?_)
          clear hKc Kc
          try simp only [pt]
          refine wpAnyH_ready (rs:=[4]) (by kernel_rfl) (by simp) ?_
          refine AllReadyH.cons rfl (fun Kc hKc => ?_) AllReadyH.nil
          go_simp
          refine (G8.out.word [⟨#[119,104,97,116]⟩,⟨#[107,105,110,100]⟩,⟨#[110,111,116,104,105,110,103]⟩,⟨#[]⟩] 4 Q1_8.out (by omega) rfl (by omega) (by omega) (by decide)).mono ?_
          rintro e v9 ⟨xa,hxa,rfl,hz,hgz⟩
          have G9:=Lib.hid hz
          have hl9:=G9.out.lt
          have hqQ89:Blk v9 (w6.heap.size+1) 9 #[.string ⟨#[]⟩,.string ⟨#[120]⟩,.string ⟨#[119,111,114,100,115]⟩]:=(hgz.block _ Q8.out.lt (by intro e; injection e; omega)).trans Q8.out
          have Q8_9:=Lib.hid hqQ89
          clear hqQ89
          clear hz hgz
          refine hKc.out _ _ G9.out.c3 (fun hHeld => ?_)
          clear hKc Kc
          try simp only [pt]
          refine wpAnyH_ready (rs:=[7]) (by kernel_rfl) (by simp) ?_
          refine AllReadyH.cons rfl (fun Kc hKc => ?_) AllReadyH.nil
          go_simp
          refine (G9.out.word [⟨#[]⟩,⟨#[120]⟩,⟨#[119,111,114,100,115]⟩] 3 Q8_9.out (by omega) rfl (by omega) (by omega) (by decide)).mono ?_
          rintro e v10 ⟨xb,hxb,rfl,hz,hgz⟩
          have G10:=Lib.hid hz
          have hl10:=G10.out.lt
          clear hz hgz
          refine hKc.out _ _ G10.out.c3 (fun hHeld => ?_)
          clear hKc Kc
          try simp only [pt]
          refine wpAnyH_ready (rs:=[9]) (by kernel_rfl) (by simp) ?_
          refine AllReadyH.cons rfl (fun Kc hKc => ?_) AllReadyH.nil
          go_simp
          refine (G10.out.next 2 (by omega) (by omega)).mono ?_
          rintro e v11 ⟨r2,hr2,rfl,hz,hgz⟩
          have G11:=Lib.hid hz
          have hl11:=G11.out.lt
          clear hz hgz
          refine hKc.out _ _ G11.out.c3 (fun hHeld => ?_)
          clear hKc Kc
          try simp only [pt]
          refine t1 10 rfl ?_
          try simp only [pt]
          refine wpAnyH_ready (rs:=[11]) (by kernel_rfl) (by simp) ?_
          refine AllReadyH.cons rfl (fun Kc hKc => ?_) AllReadyH.nil
          go_simp
          refine hKc.out _ _ (G11.out.alloc _).c3 (fun hHeld => ?_)
          clear hKc Kc
          try simp only [pt]
          refine wpAnyH_ready (rs:=[12]) (by kernel_rfl) (by simp) ?_
          refine AllReadyH.cons rfl (fun Kc hKc => ?_) AllReadyH.nil
          have OW:=Lib.hid G11.out.oa
          have hlc:=G11.out.lt
          refine step_append_lies _ (by rfl) _ _ _ (by rfl) (w.heap.size+2) 47 i0 (.agg #[.string ⟨#[]⟩,.string ⟨#[]⟩,.int .i64 0]) 3 40 Tryz.underlying23 hi hz0 hz1 hz2 rfl (by omega) va s.ans.length (ansC s.ans) (by rfl) (OW.out.alloc _) ⟨v11.heap.size,0,none⟩ 1 1 [.string xa,.string xb,.int .i64 (r2:Int)] (by rfl) (by rfl) (World.news_of_block (cs:=#[.string xa,.string xb,.int .i64 (r2:Int)]) (t:=47) (fr:=(0,0)) (heap_alloc_new v11 _)) (by intro u hu; simp at hu; rcases hu with rfl | rfl | rfl <;> rfl) (by omega) (by simp only [maxLen]; omega) (by omega) (by simp; omega) (v11.heap.size+1) (by simp) ?_
          intro gg cap w12 hown12 hgr12 hat12 hlt12
          have MO:=Lib.hid (G11.out.pushA (K':=K+1000) (a:=⟨xa,xb,(r2:Int)⟩) hown12 hgr12 (by omega) ⟨by show xa.size ≤ _; omega,by show xb.size ≤ _; omega,by show -9223372036854775808 ≤ (r2:Int) ∧ (r2:Int) < 9223372036854775808; omega⟩)
          have mc:=MO.out.2.1
          have mf:=MO.out.2.2
          clear hown12 hgr12 hat12 OW
          refine hKc.out _ _ mc (fun hHeld => ?_)
          clear hKc Kc
          try simp only [pt]
          refine t1 13 rfl ?_
          try simp only [pt]
          refine wpAnyH_done (by kernel_rfl) ?_ _
          refine lastQ_step (by rfl) (by rfl) ?_
          go_simp
          (try go_wp2_with fail)
          go_meet
          exact MO.out.1.finS (Nat.le_refl _)
      · go_simp
        have G14:=Lib.hid (HD7.out.alloc (.cells #[.string ⟨#[]⟩,.string ⟨#[120]⟩,.string ⟨#[119,111,114,100,115]⟩] 9))
        have hq14:Blk (w6.drew.alloc (.cells #[.string ⟨#[]⟩,.string ⟨#[120]⟩,.string ⟨#[119,111,114,100,115]⟩] 9)) (w6.heap.size) 9 #[.string ⟨#[]⟩,.string ⟨#[120]⟩,.string ⟨#[119,111,114,100,115]⟩]:=by
          have h:=Blk.new w6.drew 9 #[.string ⟨#[]⟩,.string ⟨#[120]⟩,.string ⟨#[119,111,114,100,115]⟩]
          first | exact h | (rw [World.size_alloc] at h; exact h)
        have Q14:=Lib.hid hq14
        clear hq14
        refine hKc.out _ _ G14.out.c3 (fun hHeld => ?_)
        clear hKc Kc
        try simp only [pt]
        refine wpAnyH_ready (rs:=[3]) (by kernel_rfl) (by simp) ?_
        refine AllReadyH.cons rfl (fun Kc hKc => ?_) AllReadyH.nil
        go_simp
        have G15:=Lib.hid (G14.out.alloc (.cells #[.string ⟨#[119,104,97,116]⟩,.string ⟨#[107,105,110,100]⟩,.string ⟨#[110,111,116,104,105,110,103]⟩,.string ⟨#[]⟩] 9))
        have hq15:Blk ((w6.drew.alloc (.cells #[.string ⟨#[]⟩,.string ⟨#[120]⟩,.string ⟨#[119,111,114,100,115]⟩] 9)).alloc (.cells #[.string ⟨#[119,104,97,116]⟩,.string ⟨#[107,105,110,100]⟩,.string ⟨#[110,111,116,104,105,110,103]⟩,.string ⟨#[]⟩] 9)) (w6.heap.size+1) 9 #[.string ⟨#[119,104,97,116]⟩,.string ⟨#[107,105,110,100]⟩,.string ⟨#[110,111,116,104,105,110,103]⟩,.string ⟨#[]⟩]:=by
          have h:=Blk.new (w6.drew.alloc (.cells #[.string ⟨#[]⟩,.string ⟨#[120]⟩,.string ⟨#[119,111,114,100,115]⟩] 9)) 9 #[.string ⟨#[119,104,97,116]⟩,.string ⟨#[107,105,110,100]⟩,.string ⟨#[110,111,116,104,105,110,103]⟩,.string ⟨#[]⟩]
          first | exact h | (rw [World.size_alloc] at h; exact h)
        have Q15:=Lib.hid hq15
        clear hq15
        have Q14_15:=Lib.hid (Q14.out.alloc (.cells #[.string ⟨#[119,104,97,116]⟩,.string ⟨#[107,105,110,100]⟩,.string ⟨#[110,111,116,104,105,110,103]⟩,.string ⟨#[]⟩] 9))
        refine hKc.out _ _ G15.out.c3 (fun hHeld => ?_)
        clear hKc Kc
        try simp only [pt]
        refine wpAnyH_ready (rs:=[4]) (by kernel_rfl) (by simp) ?_
        refine AllReadyH.cons rfl (fun Kc hKc => ?_) AllReadyH.nil
        go_simp
        refine (G15.out.word [⟨#[119,104,97,116]⟩,⟨#[107,105,110,100]⟩,⟨#[110,111,116,104,105,110,103]⟩,⟨#[]⟩] 4 Q15.out (by omega) rfl (by omega) (by omega) (by decide)).mono ?_
        rintro e v16 ⟨xa,hxa,rfl,hz,hgz⟩
        have G16:=Lib.hid hz
        have hl16:=G16.out.lt
        have hqQ14_1516:Blk v16 (w6.heap.size) 9 #[.string ⟨#[]⟩,.string ⟨#[120]⟩,.string ⟨#[119,111,114,100,115]⟩]:=(hgz.block _ Q14_15.out.lt (by intro e; injection e; omega)).trans Q14_15.out
        have Q14_15_16:=Lib.hid hqQ14_1516
        clear hqQ14_1516
        clear hz hgz
        refine hKc.out _ _ G16.out.c3 (fun hHeld => ?_)
        clear hKc Kc
        try simp only [pt]
        refine wpAnyH_ready (rs:=[7]) (by kernel_rfl) (by simp) ?_
        refine AllReadyH.cons rfl (fun Kc hKc => ?_) AllReadyH.nil
        go_simp
        refine (G16.out.word [⟨#[]⟩,⟨#[120]⟩,⟨#[119,111,114,100,115]⟩] 3 Q14_15_16.out (by omega) rfl (by omega) (by omega) (by decide)).mono ?_
        rintro e v17 ⟨xb,hxb,rfl,hz,hgz⟩
        have G17:=Lib.hid hz
        have hl17:=G17.out.lt
        clear hz hgz
        refine hKc.out _ _ G17.out.c3 (fun hHeld => ?_)
        clear hKc Kc
        try simp only [pt]
        refine wpAnyH_ready (rs:=[9]) (by kernel_rfl) (by simp) ?_
        refine AllReadyH.cons rfl (fun Kc hKc => ?_) AllReadyH.nil
        go_simp
        refine (G17.out.next 2 (by omega) (by omega)).mono ?_
        rintro e v18 ⟨r2,hr2,rfl,hz,hgz⟩
        have G18:=Lib.hid hz
        have hl18:=G18.out.lt
        clear hz hgz
        refine hKc.out _ _ G18.out.c3 (fun hHeld => ?_)
        clear hKc Kc
        try simp only [pt]
        refine t1 10 rfl ?_
        try simp only [pt]
        refine wpAnyH_ready (rs:=[11]) (by kernel_rfl) (by simp) ?_
        refine AllReadyH.cons rfl (fun Kc hKc => ?_) AllReadyH.nil
        go_simp
        refine hKc.out _ _ (G18.out.alloc _).c3 (fun hHeld => ?_)
        clear hKc Kc
        try simp only [pt]
        refine wpAnyH_ready (rs:=[12]) (by kernel_rfl) (by simp) ?_
        refine AllReadyH.cons rfl (fun Kc hKc => ?_) AllReadyH.nil
        have OW:=Lib.hid G18.out.oa
        have hlc:=G18.out.lt
        refine step_append_lies _ (by rfl) _ _ _ (by rfl) (w.heap.size+2) 47 i0 (.agg #[.string ⟨#[]⟩,.string ⟨#[]⟩,.int .i64 0]) 3 40 Tryz.underlying23 hi hz0 hz1 hz2 rfl (by omega) va s.ans.length (ansC s.ans) (by rfl) (OW.out.alloc _) ⟨v18.heap.size,0,none⟩ 1 1 [.string xa,.string xb,.int .i64 (r2:Int)] (by rfl) (by rfl) (World.news_of_block (cs:=#[.string xa,.string xb,.int .i64 (r2:Int)]) (t:=47) (fr:=(0,0)) (heap_alloc_new v18 _)) (by intro u hu; simp at hu; rcases hu with rfl | rfl | rfl <;> rfl) (by omega) (by simp only [maxLen]; omega) (by omega) (by simp; omega) (v18.heap.size+1) (by simp) ?_
        intro gg cap w12 hown12 hgr12 hat12 hlt12
        have MO:=Lib.hid (G18.out.pushA (K':=K+1000) (a:=⟨xa,xb,(r2:Int)⟩) hown12 hgr12 (by omega) ⟨by show xa.size ≤ _; omega,by show xb.size ≤ _; omega,by show -9223372036854775808 ≤ (r2:Int) ∧ (r2:Int) < 9223372036854775808; omega⟩)
        have mc:=MO.out.2.1
        have mf:=MO.out.2.2
        clear hown12 hgr12 hat12 OW
        refine hKc.out _ _ mc (fun hHeld => ?_)
        clear hKc Kc
        try simp only [pt]
        refine t1 13 rfl ?_
        try simp only [pt]
        refine wpAnyH_done (by kernel_rfl) ?_ _
        refine lastQ_step (by rfl) (by rfl) ?_
        go_simp
        (try go_wp2_with fail)
        go_meet
        exact MO.out.1.finS (Nat.le_refl _)
    · as_aux_lemma =>
      obtain ⟨Av,n,cv,hva,hn⟩:∃ Av n cv,va=.slice Av n cv ∧ n=s.ans.length:=by
        obtain ⟨Av,cv,e⟩:=own_slice H6.out.oa
        exact ⟨Av,_,cv,e,rfl⟩
      subst hva
      have c3:=H6.out.c3
      have hn5:n ≤ 50000:=by omega
      have HNN:=Lib.hid hn
      clear hn
      by_cases hp:0 < n
      · have hzp:(0:Int) < (n:Int):=by omega
        obtain ⟨g,gc,hgv,-⟩:∃ g gc,Av=some ⟨g,0,none⟩ ∧ gc=cv:=by
          have ho:=H6.out.oa
          rw [← HNN.out] at ho
          obtain ⟨g,c,e,-⟩:=ho.form hp
          injection e with e1 e2 e3
          exact ⟨g,cv,e1,rfl⟩
        subst hgv
        have hnx:∀ W,OSt w W S db K s (.slice (some ⟨g,0,none⟩) n cv) (.slice Ac nc cc) vs → Calls Tryz.prog 19 #[.pointer (some ⟨db,0,none⟩),.int .i64 (n:Int)] W fun e W' => ∃ r:Nat,r < n ∧ e=.returned (.int .i64 (r:Int)) ∧ OSt w W' S db K s (.slice (some ⟨g,0,none⟩) n cv) (.slice Ac nc cc) vs ∧ W.grownBy W' (some db):=fun W h => h.next n hp (by omega)
        have HNX:=Lib.hid hnx
        have HP:=Lib.hid (And.intro H6.out.drew.c3 (Lib.hid H6.out.drew))
        clear hnx
        go_upto_region 13 with fail
        go_region_held3 (fun W => W.cell? ⟨w.heap.size,3,none⟩=some (.slice (some ⟨g,0,none⟩) n cv) ∧ Hid (OSt w W S db K s (.slice (some ⟨g,0,none⟩) n cv) (.slice Ac nc cc) vs))
          (first
            | exact HP2.out
            | exact HP.out)
          (first
            | (go_at_call 19
               (with_reducible refine (HNX.out _ H6.out.drew).mono ?_)
               rintro e w7 ⟨k,hk,rfl,h7,-⟩
               have HP2:=Lib.hid (And.intro h7.c3 (Lib.hid h7))
               have qr:(k:Int) < (n:Int):=by omega
               have q0:(0:Int) ≤ (k:Int):=by omega
               clear h7))
        all_goals
          have H7:=Lib.hid HP2.out.2.out
          have hn:=HNN.out
          have HTX:Hid ((ansAt s.ans k).text.size ≤ K):=Lib.hid (HK.out.ans _ (ansAt_mem (by omega))).2.1
          have hl7:=H7.out.lt
          clear HP HP2 HNX H6 c3
          have HD7:=Lib.hid H7.out.drew
          have hHeld:_ ∧ _:=⟨HD7.out.aText hn hk,HD7.out.aNum hn hk⟩
          have hjs:∀ x:ByteArray,x.size ≤ 1000 → ¬ 9223372036854775807 < (ansAt s.ans k).text.size+x.size:=fun x hx => by have:=HTX.out; omega
          have HJS:=Lib.hid hjs
          clear hjs
          go_upto_region 14 with fail
          refine wp_region_lastZ _ _ (fun W => W.cell? ⟨g,k*3+1,none⟩=some (.string (ansAt s.ans k).text) ∧ W.cell? ⟨g,k*3+2,none⟩=some (.int .i64 (ansAt s.ans k).num)) 22 hmx rfl (by kernel_rfl) ?_
          simp only [List.dropLast]
          refine tq 0 rfl rfl ?_
          try simp only [pt]
          refine tq 2 rfl rfl ?_
          try simp only [pt]
          refine tq 3 rfl rfl ?_
          try simp only [pt]
          refine tq 4 rfl rfl ?_
          try simp only [pt]
          refine tq 5 rfl rfl ?_
          try simp only [pt]
          refine tq 6 rfl rfl ?_
          try simp only [pt]
          refine tq 10 rfl rfl ?_
          try simp only [pt]
          refine tq 11 rfl rfl ?_
          try simp only [pt]
          refine tq 12 rfl rfl ?_
          try simp only [pt]
          refine tq 13 rfl rfl ?_
          try simp only [pt]
          refine tq 15 rfl rfl ?_
          try simp only [pt]
          refine tw 1 rfl (.inr hHeld) ?_
          try simp only [pt]
          refine wpAnyZ_ready (rs:=[7,14]) (by kernel_rfl) (by simp) ?_
          refine AllReadyZ.cons rfl (fun Kc hKc => ?_) (AllReadyZ.cons rfl (fun Kc hKc => ?_) AllReadyZ.nil)
          · go_simp
            have G21:=Lib.hid (HD7.out.alloc (.cells #[.string ⟨#[]⟩,.string ⟨#[120]⟩,.string ⟨#[97,32,109,117,99,104,32,108,111,110,103,101,114,32,116,101,120,116,32,116,104,97,110,32,116,104,105,115]⟩] 9))
            have hq21:Blk (w7.drew.alloc (.cells #[.string ⟨#[]⟩,.string ⟨#[120]⟩,.string ⟨#[97,32,109,117,99,104,32,108,111,110,103,101,114,32,116,101,120,116,32,116,104,97,110,32,116,104,105,115]⟩] 9)) (w7.heap.size) 9 #[.string ⟨#[]⟩,.string ⟨#[120]⟩,.string ⟨#[97,32,109,117,99,104,32,108,111,110,103,101,114,32,116,101,120,116,32,116,104,97,110,32,116,104,105,115]⟩]:=by
              have h:=Blk.new w7.drew 9 #[.string ⟨#[]⟩,.string ⟨#[120]⟩,.string ⟨#[97,32,109,117,99,104,32,108,111,110,103,101,114,32,116,101,120,116,32,116,104,97,110,32,116,104,105,115]⟩]
              first | exact h | (rw [World.size_alloc] at h; exact h)
            have Q21:=Lib.hid hq21
            clear hq21
            clear hHeld
            have hHeld:_ ∧ _:=⟨G21.out.aText hn hk,G21.out.aNum hn hk⟩
            refine hKc.out _ _ (.inr hHeld) ?_
            clear hKc Kc
            try simp only [pt]
            refine wpAnyZ_ready (rs:=[8,14]) (by kernel_rfl) (by simp) ?_
            refine AllReadyZ.cons rfl (fun Kc hKc => ?_) (AllReadyZ.cons rfl (fun Kc hKc => ?_) AllReadyZ.nil)
            · go_simp
              refine (G21.out.word [⟨#[]⟩,⟨#[120]⟩,⟨#[97,32,109,117,99,104,32,108,111,110,103,101,114,32,116,101,120,116,32,116,104,97,110,32,116,104,105,115]⟩] 3 Q21.out (by omega) rfl (by omega) (by omega) (by decide)).mono ?_
              rintro e v22 ⟨xt,hxt,rfl,hz,hgz⟩
              have G22:=Lib.hid hz
              have hl22:=G22.out.lt
              clear hz hgz
              have hjx:=HJS.out xt hxt
              clear hHeld
              have hHeld:_ ∧ _:=⟨G22.out.aText hn hk,G22.out.aNum hn hk⟩
              refine hKc.out _ _ (.inr hHeld) ?_
              clear hKc Kc
              try simp only [pt]
              refine tq 9 rfl rfl ?_
              try simp only [pt]
              refine wpAnyZ_ready (rs:=[14,16]) (by kernel_rfl) (by simp) ?_
              refine AllReadyZ.cons rfl (fun Kc hKc => ?_) (AllReadyZ.cons rfl (fun Kc hKc => ?_) AllReadyZ.nil)
              · go_simp
                have G23:=Lib.hid (G22.out.alloc (.cells #[.int .i64 0,.int .i64 20,.int .i64 (-20)] 3))
                have hq23:Blk (v22.alloc (.cells #[.int .i64 0,.int .i64 20,.int .i64 (-20)] 3)) (v22.heap.size) 3 #[.int .i64 0,.int .i64 20,.int .i64 (-20)]:=by
                  have h:=Blk.new v22 3 #[.int .i64 0,.int .i64 20,.int .i64 (-20)]
                  first | exact h | (rw [World.size_alloc] at h; exact h)
                have Q23:=Lib.hid hq23
                clear hq23
                clear hHeld
                have hHeld:_ ∧ _:=⟨G23.out.aText hn hk,G23.out.aNum hn hk⟩
                refine hKc.out _ _ (.inr hHeld) ?_
                clear hKc Kc
                try simp only [pt]
                refine wpAnyZ_ready (rs:=[16]) (by kernel_rfl) (by simp) ?_
                refine AllReadyZ.cons rfl (fun Kc hKc => ?_) AllReadyZ.nil
                go_simp
                refine (G23.out.next 3 (by omega) (by omega)).mono ?_
                rintro e v24 ⟨r3,hr3,rfl,hz,hgz⟩
                have G24:=Lib.hid hz
                have hl24:=G24.out.lt
                have hqQ2324:Blk v24 (v22.heap.size) 3 #[.int .i64 0,.int .i64 20,.int .i64 (-20)]:=(hgz.block _ Q23.out.lt (by intro e; injection e; omega)).trans Q23.out
                have Q23_24:=Lib.hid hqQ2324
                clear hqQ2324
                clear hz hgz
                obtain ⟨xn,hxn⟩:∃ xn:Int,(#[.int .i64 0,.int .i64 20,.int .i64 (-20)] : Array Value)[r3]?=some (.int .i64 xn):=by
                  have h9:r3=0 ∨ r3=1 ∨ r3=2:=by omega
                  rcases h9 with rfl | rfl | rfl
                  · exact ⟨_,rfl⟩
                  · exact ⟨_,rfl⟩
                  · exact ⟨_,rfl⟩
                have q3:(r3:Int) < 3:=by omega
                have q30:(0:Int) ≤ (r3:Int):=by omega
                obtain ⟨y,hy⟩:∃ y,IntKind.i64.wrap ((ansAt s.ans k).num+xn)=y:=⟨_,rfl⟩
                have hy64:In64' y:=by
                  have hb:=bounds_i64 (wf_wrap .i64 ((ansAt s.ans k).num+xn))
                  rw [hy] at hb
                  exact ⟨by omega,by omega⟩
                clear hHeld
                have hHeld:_ ∧ _:=⟨G24.out.aText hn hk,G24.out.aNum hn hk⟩
                refine hKc.out _ _ (.inr hHeld) ?_
                clear hKc Kc
                try simp only [pt]
                refine tq 17 rfl rfl ?_
                try simp only [pt]
                refine wpAnyZ_ready (rs:=[18]) (by kernel_rfl) (by simp) ?_
                refine AllReadyZ.cons rfl (fun Kc hKc => ?_) AllReadyZ.nil
                have l8:=(Q23_24.out.cell r3).trans hxn
                go_simp
                clear l8
                clear hHeld
                have hHeld:_ ∧ _:=⟨G24.out.aText hn hk,G24.out.aNum hn hk⟩
                refine hKc.out _ _ (.inr hHeld) ?_
                clear hKc Kc
                try simp only [pt]
                refine tw 19 rfl (.inr hHeld) ?_
                try simp only [pt]
                refine tq 20 rfl rfl ?_
                try simp only [pt]
                refine tq 21 rfl rfl ?_
                try simp only [pt]
                refine wpAnyZ_ready (rs:=[22]) (by kernel_rfl) (by simp) ?_
                refine AllReadyZ.cons rfl (fun Kc hKc => ?_) AllReadyZ.nil
                have t1:=G24.out.aText hn hk
                have t2:=G24.out.aFz hn (k*3+1)
                go_simp
                clear t1 t2
                refine hKc.out _ _ (.inl (by kernel_rfl)) ?_
                clear hKc Kc hHeld
                try simp only [pt]
                refine tw 23 rfl (.inl (by kernel_rfl)) ?_
                try simp only [pt]
                refine tw 24 rfl (.inl (by kernel_rfl)) ?_
                try simp only [pt]
                refine wpAnyZ_done (by kernel_rfl) ?_ _
                have t3:=G24.out.aNum2 hn hk (.string ((ansAt s.ans k).text ++ xt))
                have t4:=G24.out.aFz2 hn hk (.string ((ansAt s.ans k).text ++ xt))
                refine lastQ_step (by rfl) (by rfl) ?_
                go_simp
                (try go_wp2_with fail)
                go_meet
                exact (G24.out.setA hn hk ((ansAt s.ans k).text ++ xt) y (by omega) (by rw [ByteArray.size_append]; have:=HTX.out; omega) hy64).finS (Nat.le_refl _)
              · go_simp
                refine (G22.out.next 3 (by omega) (by omega)).mono ?_
                rintro e v27 ⟨r3,hr3,rfl,hz,hgz⟩
                have G27:=Lib.hid hz
                have hl27:=G27.out.lt
                clear hz hgz
                obtain ⟨xn,hxn⟩:∃ xn:Int,(#[.int .i64 0,.int .i64 20,.int .i64 (-20)] : Array Value)[r3]?=some (.int .i64 xn):=by
                  have h9:r3=0 ∨ r3=1 ∨ r3=2:=by omega
                  rcases h9 with rfl | rfl | rfl
                  · exact ⟨_,rfl⟩
                  · exact ⟨_,rfl⟩
                  · exact ⟨_,rfl⟩
                have q3:(r3:Int) < 3:=by omega
                have q30:(0:Int) ≤ (r3:Int):=by omega
                obtain ⟨y,hy⟩:∃ y,IntKind.i64.wrap ((ansAt s.ans k).num+xn)=y:=⟨_,rfl⟩
                have hy64:In64' y:=by
                  have hb:=bounds_i64 (wf_wrap .i64 ((ansAt s.ans k).num+xn))
                  rw [hy] at hb
                  exact ⟨by omega,by omega⟩
                clear hHeld
                have hHeld:_ ∧ _:=⟨G27.out.aText hn hk,G27.out.aNum hn hk⟩
                refine hKc.out _ _ (.inr hHeld) ?_
                clear hKc Kc
                try simp only [pt]
                refine wpAnyZ_ready (rs:=[14]) (by kernel_rfl) (by simp) ?_
                refine AllReadyZ.cons rfl (fun Kc hKc => ?_) AllReadyZ.nil
                go_simp
                have G28:=Lib.hid (G27.out.alloc (.cells #[.int .i64 0,.int .i64 20,.int .i64 (-20)] 3))
                have hq28:Blk (v27.alloc (.cells #[.int .i64 0,.int .i64 20,.int .i64 (-20)] 3)) (v27.heap.size) 3 #[.int .i64 0,.int .i64 20,.int .i64 (-20)]:=by
                  have h:=Blk.new v27 3 #[.int .i64 0,.int .i64 20,.int .i64 (-20)]
                  first | exact h | (rw [World.size_alloc] at h; exact h)
                have Q28:=Lib.hid hq28
                clear hq28
                clear hHeld
                have hHeld:_ ∧ _:=⟨G28.out.aText hn hk,G28.out.aNum hn hk⟩
                refine hKc.out _ _ (.inr hHeld) ?_
                clear hKc Kc
                try simp only [pt]
                refine tq 17 rfl rfl ?_
                try simp only [pt]
                refine wpAnyZ_ready (rs:=[18]) (by kernel_rfl) (by simp) ?_
                refine AllReadyZ.cons rfl (fun Kc hKc => ?_) AllReadyZ.nil
                have l8:=(Q28.out.cell r3).trans hxn
                obtain ⟨wz29,hwz⟩:∃ wz,(v27.alloc (.cells #[.int .i64 0,.int .i64 20,.int .i64 (-20)] 3))=wz:=⟨_,rfl⟩
                rw [hwz] at l8 G28
                rw [hwz]
                clear hwz
                go_simp
                clear l8
                clear hHeld
                have hHeld:_ ∧ _:=⟨G28.out.aText hn hk,G28.out.aNum hn hk⟩
                refine hKc.out _ _ (.inr hHeld) ?_
                clear hKc Kc
                try simp only [pt]
                refine tw 19 rfl (.inr hHeld) ?_
                try simp only [pt]
                refine tq 20 rfl rfl ?_
                try simp only [pt]
                refine tq 21 rfl rfl ?_
                try simp only [pt]
                refine wpAnyZ_ready (rs:=[22]) (by kernel_rfl) (by simp) ?_
                refine AllReadyZ.cons rfl (fun Kc hKc => ?_) AllReadyZ.nil
                have t1:=G28.out.aText hn hk
                have t2:=G28.out.aFz hn (k*3+1)
                go_simp
                clear t1 t2
                refine hKc.out _ _ (.inl (by kernel_rfl)) ?_
                clear hKc Kc hHeld
                try simp only [pt]
                refine tw 23 rfl (.inl (by kernel_rfl)) ?_
                try simp only [pt]
                refine tw 24 rfl (.inl (by kernel_rfl)) ?_
                try simp only [pt]
                refine wpAnyZ_done (by kernel_rfl) ?_ _
                have t3:=G28.out.aNum2 hn hk (.string ((ansAt s.ans k).text ++ xt))
                have t4:=G28.out.aFz2 hn hk (.string ((ansAt s.ans k).text ++ xt))
                refine lastQ_step (by rfl) (by rfl) ?_
                go_simp
                (try go_wp2_with fail)
                go_meet
                exact (G28.out.setA hn hk ((ansAt s.ans k).text ++ xt) y (by omega) (by rw [ByteArray.size_append]; have:=HTX.out; omega) hy64).finS (Nat.le_refl _)
            · go_simp
              have G31:=Lib.hid (G21.out.alloc (.cells #[.int .i64 0,.int .i64 20,.int .i64 (-20)] 3))
              have hq31:Blk ((w7.drew.alloc (.cells #[.string ⟨#[]⟩,.string ⟨#[120]⟩,.string ⟨#[97,32,109,117,99,104,32,108,111,110,103,101,114,32,116,101,120,116,32,116,104,97,110,32,116,104,105,115]⟩] 9)).alloc (.cells #[.int .i64 0,.int .i64 20,.int .i64 (-20)] 3)) (w7.heap.size+1) 3 #[.int .i64 0,.int .i64 20,.int .i64 (-20)]:=by
                have h:=Blk.new (w7.drew.alloc (.cells #[.string ⟨#[]⟩,.string ⟨#[120]⟩,.string ⟨#[97,32,109,117,99,104,32,108,111,110,103,101,114,32,116,101,120,116,32,116,104,97,110,32,116,104,105,115]⟩] 9)) 3 #[.int .i64 0,.int .i64 20,.int .i64 (-20)]
                first | exact h | (rw [World.size_alloc] at h; exact h)
              have Q31:=Lib.hid hq31
              clear hq31
              have Q21_31:=Lib.hid (Q21.out.alloc (.cells #[.int .i64 0,.int .i64 20,.int .i64 (-20)] 3))
              clear hHeld
              have hHeld:_ ∧ _:=⟨G31.out.aText hn hk,G31.out.aNum hn hk⟩
              refine hKc.out _ _ (.inr hHeld) ?_
              clear hKc Kc
              try simp only [pt]
              refine wpAnyZ_ready (rs:=[8]) (by kernel_rfl) (by simp) ?_
              refine AllReadyZ.cons rfl (fun Kc hKc => ?_) AllReadyZ.nil
              go_simp
              refine (G31.out.word [⟨#[]⟩,⟨#[120]⟩,⟨#[97,32,109,117,99,104,32,108,111,110,103,101,114,32,116,101,120,116,32,116,104,97,110,32,116,104,105,115]⟩] 3 Q21_31.out (by omega) rfl (by omega) (by omega) (by decide)).mono ?_
              rintro e v32 ⟨xt,hxt,rfl,hz,hgz⟩
              have G32:=Lib.hid hz
              have hl32:=G32.out.lt
              have hqQ3132:Blk v32 (w7.heap.size+1) 3 #[.int .i64 0,.int .i64 20,.int .i64 (-20)]:=(hgz.block _ Q31.out.lt (by intro e; injection e; omega)).trans Q31.out
              have Q31_32:=Lib.hid hqQ3132
              clear hqQ3132
              clear hz hgz
              have hjx:=HJS.out xt hxt
              clear hHeld
              have hHeld:_ ∧ _:=⟨G32.out.aText hn hk,G32.out.aNum hn hk⟩
              refine hKc.out _ _ (.inr hHeld) ?_
              clear hKc Kc
              try simp only [pt]
              refine tq 9 rfl rfl ?_
              try simp only [pt]
              refine wpAnyZ_ready (rs:=[16]) (by kernel_rfl) (by simp) ?_
              refine AllReadyZ.cons rfl (fun Kc hKc => ?_) AllReadyZ.nil
              go_simp
              refine (G32.out.next 3 (by omega) (by omega)).mono ?_
              rintro e v33 ⟨r3,hr3,rfl,hz,hgz⟩
              have G33:=Lib.hid hz
              have hl33:=G33.out.lt
              have hqQ31_3233:Blk v33 (w7.heap.size+1) 3 #[.int .i64 0,.int .i64 20,.int .i64 (-20)]:=(hgz.block _ Q31_32.out.lt (by intro e; injection e; omega)).trans Q31_32.out
              have Q31_32_33:=Lib.hid hqQ31_3233
              clear hqQ31_3233
              clear hz hgz
              obtain ⟨xn,hxn⟩:∃ xn:Int,(#[.int .i64 0,.int .i64 20,.int .i64 (-20)] : Array Value)[r3]?=some (.int .i64 xn):=by
                have h9:r3=0 ∨ r3=1 ∨ r3=2:=by omega
                rcases h9 with rfl | rfl | rfl
                · exact ⟨_,rfl⟩
                · exact ⟨_,rfl⟩
                · exact ⟨_,rfl⟩
              have q3:(r3:Int) < 3:=by omega
              have q30:(0:Int) ≤ (r3:Int):=by omega
              obtain ⟨y,hy⟩:∃ y,IntKind.i64.wrap ((ansAt s.ans k).num+xn)=y:=⟨_,rfl⟩
              have hy64:In64' y:=by
                have hb:=bounds_i64 (wf_wrap .i64 ((ansAt s.ans k).num+xn))
                rw [hy] at hb
                exact ⟨by omega,by omega⟩
              clear hHeld
              have hHeld:_ ∧ _:=⟨G33.out.aText hn hk,G33.out.aNum hn hk⟩
              refine hKc.out _ _ (.inr hHeld) ?_
              clear hKc Kc
              try simp only [pt]
              refine tq 17 rfl rfl ?_
              try simp only [pt]
              refine wpAnyZ_ready (rs:=[18]) (by kernel_rfl) (by simp) ?_
              refine AllReadyZ.cons rfl (fun Kc hKc => ?_) AllReadyZ.nil
              have l8:=(Q31_32_33.out.cell r3).trans hxn
              go_simp
              clear l8
              clear hHeld
              have hHeld:_ ∧ _:=⟨G33.out.aText hn hk,G33.out.aNum hn hk⟩
              refine hKc.out _ _ (.inr hHeld) ?_
              clear hKc Kc
              try simp only [pt]
              refine tw 19 rfl (.inr hHeld) ?_
              try simp only [pt]
              refine tq 20 rfl rfl ?_
              try simp only [pt]
              refine tq 21 rfl rfl ?_
              try simp only [pt]
              refine wpAnyZ_ready (rs:=[22]) (by kernel_rfl) (by simp) ?_
              refine AllReadyZ.cons rfl (fun Kc hKc => ?_) AllReadyZ.nil
              have t1:=G33.out.aText hn hk
              have t2:=G33.out.aFz hn (k*3+1)
              go_simp
              clear t1 t2
              refine hKc.out _ _ (.inl (by kernel_rfl)) ?_
              clear hKc Kc hHeld
              try simp only [pt]
              refine tw 23 rfl (.inl (by kernel_rfl)) ?_
              try simp only [pt]
              refine tw 24 rfl (.inl (by kernel_rfl)) ?_
              try simp only [pt]
              refine wpAnyZ_done (by kernel_rfl) ?_ _
              have t3:=G33.out.aNum2 hn hk (.string ((ansAt s.ans k).text ++ xt))
              have t4:=G33.out.aFz2 hn hk (.string ((ansAt s.ans k).text ++ xt))
              refine lastQ_step (by rfl) (by rfl) ?_
              go_simp
              (try go_wp2_with fail)
              go_meet
              exact (G33.out.setA hn hk ((ansAt s.ans k).text ++ xt) y (by omega) (by rw [ByteArray.size_append]; have:=HTX.out; omega) hy64).finS (Nat.le_refl _)
          · go_simp
            have G36:=Lib.hid (HD7.out.alloc (.cells #[.int .i64 0,.int .i64 20,.int .i64 (-20)] 3))
            have hq36:Blk (w7.drew.alloc (.cells #[.int .i64 0,.int .i64 20,.int .i64 (-20)] 3)) (w7.heap.size) 3 #[.int .i64 0,.int .i64 20,.int .i64 (-20)]:=by
              have h:=Blk.new w7.drew 3 #[.int .i64 0,.int .i64 20,.int .i64 (-20)]
              first | exact h | (rw [World.size_alloc] at h; exact h)
            have Q36:=Lib.hid hq36
            clear hq36
            clear hHeld
            have hHeld:_ ∧ _:=⟨G36.out.aText hn hk,G36.out.aNum hn hk⟩
            refine hKc.out _ _ (.inr hHeld) ?_
            clear hKc Kc
            try simp only [pt]
            refine wpAnyZ_ready (rs:=[7]) (by kernel_rfl) (by simp) ?_
            refine AllReadyZ.cons rfl (fun Kc hKc => ?_) AllReadyZ.nil
            go_simp
            have G37:=Lib.hid (G36.out.alloc (.cells #[.string ⟨#[]⟩,.string ⟨#[120]⟩,.string ⟨#[97,32,109,117,99,104,32,108,111,110,103,101,114,32,116,101,120,116,32,116,104,97,110,32,116,104,105,115]⟩] 9))
            have hq37:Blk ((w7.drew.alloc (.cells #[.int .i64 0,.int .i64 20,.int .i64 (-20)] 3)).alloc (.cells #[.string ⟨#[]⟩,.string ⟨#[120]⟩,.string ⟨#[97,32,109,117,99,104,32,108,111,110,103,101,114,32,116,101,120,116,32,116,104,97,110,32,116,104,105,115]⟩] 9)) (w7.heap.size+1) 9 #[.string ⟨#[]⟩,.string ⟨#[120]⟩,.string ⟨#[97,32,109,117,99,104,32,108,111,110,103,101,114,32,116,101,120,116,32,116,104,97,110,32,116,104,105,115]⟩]:=by
              have h:=Blk.new (w7.drew.alloc (.cells #[.int .i64 0,.int .i64 20,.int .i64 (-20)] 3)) 9 #[.string ⟨#[]⟩,.string ⟨#[120]⟩,.string ⟨#[97,32,109,117,99,104,32,108,111,110,103,101,114,32,116,101,120,116,32,116,104,97,110,32,116,104,105,115]⟩]
              first | exact h | (rw [World.size_alloc] at h; exact h)
            have Q37:=Lib.hid hq37
            clear hq37
            have Q36_37:=Lib.hid (Q36.out.alloc (.cells #[.string ⟨#[]⟩,.string ⟨#[120]⟩,.string ⟨#[97,32,109,117,99,104,32,108,111,110,103,101,114,32,116,101,120,116,32,116,104,97,110,32,116,104,105,115]⟩] 9))
            clear hHeld
            have hHeld:_ ∧ _:=⟨G37.out.aText hn hk,G37.out.aNum hn hk⟩
            refine hKc.out _ _ (.inr hHeld) ?_
            clear hKc Kc
            try simp only [pt]
            refine wpAnyZ_ready (rs:=[8]) (by kernel_rfl) (by simp) ?_
            refine AllReadyZ.cons rfl (fun Kc hKc => ?_) AllReadyZ.nil
            go_simp
            refine (G37.out.word [⟨#[]⟩,⟨#[120]⟩,⟨#[97,32,109,117,99,104,32,108,111,110,103,101,114,32,116,101,120,116,32,116,104,97,110,32,116,104,105,115]⟩] 3 Q37.out (by omega) rfl (by omega) (by omega) (by decide)).mono ?_
            rintro e v38 ⟨xt,hxt,rfl,hz,hgz⟩
            have G38:=Lib.hid hz
            have hl38:=G38.out.lt
            have hqQ36_3738:Blk v38 (w7.heap.size) 3 #[.int .i64 0,.int .i64 20,.int .i64 (-20)]:=(hgz.block _ Q36_37.out.lt (by intro e; injection e; omega)).trans Q36_37.out
            have Q36_37_38:=Lib.hid hqQ36_3738
            clear hqQ36_3738
            clear hz hgz
            have hjx:=HJS.out xt hxt
            clear hHeld
            have hHeld:_ ∧ _:=⟨G38.out.aText hn hk,G38.out.aNum hn hk⟩
            refine hKc.out _ _ (.inr hHeld) ?_
            clear hKc Kc
            try simp only [pt]
            refine tq 9 rfl rfl ?_
            try simp only [pt]
            refine wpAnyZ_ready (rs:=[16]) (by kernel_rfl) (by simp) ?_
            refine AllReadyZ.cons rfl (fun Kc hKc => ?_) AllReadyZ.nil
            go_simp
            refine (G38.out.next 3 (by omega) (by omega)).mono ?_
            rintro e v39 ⟨r3,hr3,rfl,hz,hgz⟩
            have G39:=Lib.hid hz
            have hl39:=G39.out.lt
            have hqQ36_37_3839:Blk v39 (w7.heap.size) 3 #[.int .i64 0,.int .i64 20,.int .i64 (-20)]:=(hgz.block _ Q36_37_38.out.lt (by intro e; injection e; omega)).trans Q36_37_38.out
            have Q36_37_38_39:=Lib.hid hqQ36_37_3839
            clear hqQ36_37_3839
            clear hz hgz
            obtain ⟨xn,hxn⟩:∃ xn:Int,(#[.int .i64 0,.int .i64 20,.int .i64 (-20)] : Array Value)[r3]?=some (.int .i64 xn):=by
              have h9:r3=0 ∨ r3=1 ∨ r3=2:=by omega
              rcases h9 with rfl | rfl | rfl
              · exact ⟨_,rfl⟩
              · exact ⟨_,rfl⟩
              · exact ⟨_,rfl⟩
            have q3:(r3:Int) < 3:=by omega
            have q30:(0:Int) ≤ (r3:Int):=by omega
            obtain ⟨y,hy⟩:∃ y,IntKind.i64.wrap ((ansAt s.ans k).num+xn)=y:=⟨_,rfl⟩
            have hy64:In64' y:=by
              have hb:=bounds_i64 (wf_wrap .i64 ((ansAt s.ans k).num+xn))
              rw [hy] at hb
              exact ⟨by omega,by omega⟩
            clear hHeld
            have hHeld:_ ∧ _:=⟨G39.out.aText hn hk,G39.out.aNum hn hk⟩
            refine hKc.out _ _ (.inr hHeld) ?_
            clear hKc Kc
            try simp only [pt]
            refine tq 17 rfl rfl ?_
            try simp only [pt]
            refine wpAnyZ_ready (rs:=[18]) (by kernel_rfl) (by simp) ?_
            refine AllReadyZ.cons rfl (fun Kc hKc => ?_) AllReadyZ.nil
            have l8:=(Q36_37_38_39.out.cell r3).trans hxn
            go_simp
            clear l8
            clear hHeld
            have hHeld:_ ∧ _:=⟨G39.out.aText hn hk,G39.out.aNum hn hk⟩
            refine hKc.out _ _ (.inr hHeld) ?_
            clear hKc Kc
            try simp only [pt]
            refine tw 19 rfl (.inr hHeld) ?_
            try simp only [pt]
            refine tq 20 rfl rfl ?_
            try simp only [pt]
            refine tq 21 rfl rfl ?_
            try simp only [pt]
            refine wpAnyZ_ready (rs:=[22]) (by kernel_rfl) (by simp) ?_
            refine AllReadyZ.cons rfl (fun Kc hKc => ?_) AllReadyZ.nil
            have t1:=G39.out.aText hn hk
            have t2:=G39.out.aFz hn (k*3+1)
            go_simp
            clear t1 t2
            refine hKc.out _ _ (.inl (by kernel_rfl)) ?_
            clear hKc Kc hHeld
            try simp only [pt]
            refine tw 23 rfl (.inl (by kernel_rfl)) ?_
            try simp only [pt]
            refine tw 24 rfl (.inl (by kernel_rfl)) ?_
            try simp only [pt]
            refine wpAnyZ_done (by kernel_rfl) ?_ _
            have t3:=G39.out.aNum2 hn hk (.string ((ansAt s.ans k).text ++ xt))
            have t4:=G39.out.aFz2 hn hk (.string ((ansAt s.ans k).text ++ xt))
            refine lastQ_step (by rfl) (by rfl) ?_
            go_simp
            (try go_wp2_with fail)
            go_meet
            exact (G39.out.setA hn hk ((ansAt s.ans k).text ++ xt) y (by omega) (by rw [ByteArray.size_append]; have:=HTX.out; omega) hy64).finS (Nat.le_refl _)
      · have hzp:¬ (0:Int) < (n:Int):=by omega
        go_wp2_with fail
        go_meet
        exact H6.out.finS (by omega)
    · as_aux_lemma =>
      have hod:=k_OddC S K db Ac nc cc s.cond w6 H6.out.dc (fun q hq => ⟨(HSI.out q hq).1,by have:=(HSI.out q hq).2; omega⟩) H6.out.cc (by omega) ⟨by omega,by omega⟩ HK.out.cond
      have HOD:=Lib.hid hod
      have c4:=(H6.out.blk.cell 4).trans (show _=some (Value.slice Ac nc cc) from rfl)
      clear hod
      go_wp2_with fail
      refine HOD.out.mono ?_
      rintro e w7 ⟨A7,n7,c7,L7,rfl,hT7,hl7',hok7,hd7,hg7⟩
      have h7:=H6.out.dice hd7 hg7
      have H7:=Lib.hid h7
      have c4':=(h7.blk.cell 4).trans (show _=some (Value.slice Ac nc cc) from rfl)
      have g4:=h7.fz 4
      have HF:=Lib.hid (h7.finC (B:=w6.heap.size) hT7 (by omega) (K':=K+1000) (by omega) (by have:=HK.out.cn; omega) (fun t ht => (hok7 t ht).mono (by omega)))
      clear h7 hT7 hl7' hok7 hd7 hg7 c4
      go_wp2_with fail
      go_meet
      exact HF.out
    · as_aux_lemma =>
      have c5:=H6.out.drew.c5
      have HD7:=Lib.hid H6.out.drew
      go_upto_region 18 with fail
      refine wp_region_last_lit _ _ (fun W => W.cell? ⟨w.heap.size,5,none⟩=some vs) hmx rfl (by kernel_rfl) c5 (fun hHeld => ?_)
      simp only [List.dropLast]
      refine t1 0 rfl ?_
      try simp only [pt]
      refine t1 1 rfl ?_
      try simp only [pt]
      refine t1 2 rfl ?_
      try simp only [pt]
      refine t1 5 rfl ?_
      try simp only [pt]
      refine wpAnyH_ready (rs:=[3,6]) (by kernel_rfl) (by simp) ?_
      refine AllReadyH.cons rfl (fun Kc hKc => ?_) (AllReadyH.cons rfl (fun Kc hKc => ?_) AllReadyH.nil)
      · go_simp
        have G42:=Lib.hid (HD7.out.alloc (.cells #[.string ⟨#[119,104,97,116]⟩,.string ⟨#[100,97,121]⟩,.string ⟨#[110,111,116,104,105,110,103]⟩] 9))
        have hq42:Blk (w6.drew.alloc (.cells #[.string ⟨#[119,104,97,116]⟩,.string ⟨#[100,97,121]⟩,.string ⟨#[110,111,116,104,105,110,103]⟩] 9)) (w6.heap.size) 9 #[.string ⟨#[119,104,97,116]⟩,.string ⟨#[100,97,121]⟩,.string ⟨#[110,111,116,104,105,110,103]⟩]:=by
          have h:=Blk.new w6.drew 9 #[.string ⟨#[119,104,97,116]⟩,.string ⟨#[100,97,121]⟩,.string ⟨#[110,111,116,104,105,110,103]⟩]
          first | exact h | (rw [World.size_alloc] at h; exact h)
        have Q42:=Lib.hid hq42
        clear hq42
        refine hKc.out _ _ G42.out.c5 (fun hHeld => ?_)
        clear hKc Kc
        try simp only [pt]
        refine wpAnyH_ready (rs:=[4,6]) (by kernel_rfl) (by simp) ?_
        refine AllReadyH.cons rfl (fun Kc hKc => ?_) (AllReadyH.cons rfl (fun Kc hKc => ?_) AllReadyH.nil)
        · go_simp
          refine (G42.out.word [⟨#[119,104,97,116]⟩,⟨#[100,97,121]⟩,⟨#[110,111,116,104,105,110,103]⟩] 3 Q42.out (by omega) rfl (by omega) (by omega) (by decide)).mono ?_
          rintro e v43 ⟨xa,hxa,rfl,hz,hgz⟩
          have G43:=Lib.hid hz
          have hl43:=G43.out.lt
          clear hz hgz
          refine hKc.out _ _ G43.out.c5 (fun hHeld => ?_)
          clear hKc Kc
          try simp only [pt]
          refine wpAnyH_ready (rs:=[6]) (by kernel_rfl) (by simp) ?_
          refine AllReadyH.cons rfl (fun Kc hKc => ?_) AllReadyH.nil
          go_simp
          have G44:=Lib.hid (G43.out.alloc (.cells #[.string ⟨#[]⟩,.string ⟨#[98,111,97,114,100]⟩,.string ⟨#[97,32,114,111,108,101,32,119,104,111,115,101,32,110,97,109,101,32,105,115,32,109,117,99,104,32,116,111,111,32,108,111,110,103,32,102,111,114,32,105,116]⟩] 9))
          have hq44:Blk (v43.alloc (.cells #[.string ⟨#[]⟩,.string ⟨#[98,111,97,114,100]⟩,.string ⟨#[97,32,114,111,108,101,32,119,104,111,115,101,32,110,97,109,101,32,105,115,32,109,117,99,104,32,116,111,111,32,108,111,110,103,32,102,111,114,32,105,116]⟩] 9)) (v43.heap.size) 9 #[.string ⟨#[]⟩,.string ⟨#[98,111,97,114,100]⟩,.string ⟨#[97,32,114,111,108,101,32,119,104,111,115,101,32,110,97,109,101,32,105,115,32,109,117,99,104,32,116,111,111,32,108,111,110,103,32,102,111,114,32,105,116]⟩]:=by
            have h:=Blk.new v43 9 #[.string ⟨#[]⟩,.string ⟨#[98,111,97,114,100]⟩,.string ⟨#[97,32,114,111,108,101,32,119,104,111,115,101,32,110,97,109,101,32,105,115,32,109,117,99,104,32,116,111,111,32,108,111,110,103,32,102,111,114,32,105,116]⟩]
            first | exact h | (rw [World.size_alloc] at h; exact h)
          have Q44:=Lib.hid hq44
          clear hq44
          refine hKc.out _ _ G44.out.c5 (fun hHeld => ?_)
          clear hKc Kc
          try simp only [pt]
          refine wpAnyH_ready (rs:=[7]) (by kernel_rfl) (by simp) ?_
          refine AllReadyH.cons rfl (fun Kc hKc => ?_) AllReadyH.nil
          go_simp
          refine (G44.out.word [⟨#[]⟩,⟨#[98,111,97,114,100]⟩,⟨#[97,32,114,111,108,101,32,119,104,111,115,101,32,110,97,109,101,32,105,115,32,109,117,99,104,32,116,111,111,32,108,111,110,103,32,102,111,114,32,105,116]⟩] 3 Q44.out (by omega) rfl (by omega) (by omega) (by decide)).mono ?_
          rintro e v45 ⟨xb,hxb,rfl,hz,hgz⟩
          have G45:=Lib.hid hz
          have hl45:=G45.out.lt
          clear hz hgz
          refine hKc.out _ _ G45.out.c5 (fun hHeld => ?_)
          clear hKc Kc
          try simp only [pt]
          refine t1 8 rfl ?_
          try simp only [pt]
          refine wpAnyH_ready (rs:=[9]) (by kernel_rfl) (by simp) ?_
          refine AllReadyH.cons rfl (fun Kc hKc => ?_) AllReadyH.nil
          go_simp
          refine hKc.out _ _ (G45.out.alloc _).c5 (fun hHeld => ?_)
          clear hKc Kc
          try simp only [pt]
          refine wpAnyH_ready (rs:=[10]) (by kernel_rfl) (by simp) ?_
          refine AllReadyH.cons rfl (fun Kc hKc => ?_) AllReadyH.nil
          have OW:=Lib.hid G45.out.os
          have hlc:=G45.out.lt
          refine step_append_lies _ (by rfl) _ _ _ (by rfl) (w.heap.size+2) 49 j0 (.agg #[.string ⟨#[]⟩,.string ⟨#[]⟩]) 2 32 Tryz.underlying27 hj hy0 hy1 hy2 rfl (by omega) vs s.shw.length (shwC s.shw) (by rfl) (OW.out.alloc _) ⟨v45.heap.size,0,none⟩ 1 1 [.string xa,.string xb] (by rfl) (by rfl) (World.news_of_block (cs:=#[.string xa,.string xb]) (t:=49) (fr:=(0,0)) (heap_alloc_new v45 _)) (by intro u hu; simp at hu; rcases hu with rfl | rfl <;> rfl) (by omega) (by simp only [maxLen]; omega) (by omega) (by simp; omega) (v45.heap.size+1) (by simp) ?_
          intro gg cap w12 hown12 hgr12 hat12 hlt12
          have MO:=Lib.hid (G45.out.pushS (K':=K+1000) (a:=⟨xa,xb⟩) hown12 hgr12 (by omega) ⟨by show xa.size ≤ _; omega,by show xb.size ≤ _; omega⟩)
          have mc:=MO.out.2.1
          have mf:=MO.out.2.2
          clear hown12 hgr12 hat12 OW
          refine hKc.out _ _ mc (fun hHeld => ?_)
          clear hKc Kc
          try simp only [pt]
          refine t1 11 rfl ?_
          try simp only [pt]
          refine wpAnyH_done (by kernel_rfl) ?_ _
          refine lastQ_step (by rfl) (by rfl) ?_
          go_simp
          (try go_wp2_with fail)
          go_meet
          exact MO.out.1.finS (Nat.le_refl _)
        · go_simp
          have G48:=Lib.hid (G42.out.alloc (.cells #[.string ⟨#[]⟩,.string ⟨#[98,111,97,114,100]⟩,.string ⟨#[97,32,114,111,108,101,32,119,104,111,115,101,32,110,97,109,101,32,105,115,32,109,117,99,104,32,116,111,111,32,108,111,110,103,32,102,111,114,32,105,116]⟩] 9))
          have hq48:Blk ((w6.drew.alloc (.cells #[.string ⟨#[119,104,97,116]⟩,.string ⟨#[100,97,121]⟩,.string ⟨#[110,111,116,104,105,110,103]⟩] 9)).alloc (.cells #[.string ⟨#[]⟩,.string ⟨#[98,111,97,114,100]⟩,.string ⟨#[97,32,114,111,108,101,32,119,104,111,115,101,32,110,97,109,101,32,105,115,32,109,117,99,104,32,116,111,111,32,108,111,110,103,32,102,111,114,32,105,116]⟩] 9)) (w6.heap.size+1) 9 #[.string ⟨#[]⟩,.string ⟨#[98,111,97,114,100]⟩,.string ⟨#[97,32,114,111,108,101,32,119,104,111,115,101,32,110,97,109,101,32,105,115,32,109,117,99,104,32,116,111,111,32,108,111,110,103,32,102,111,114,32,105,116]⟩]:=by
            have h:=Blk.new (w6.drew.alloc (.cells #[.string ⟨#[119,104,97,116]⟩,.string ⟨#[100,97,121]⟩,.string ⟨#[110,111,116,104,105,110,103]⟩] 9)) 9 #[.string ⟨#[]⟩,.string ⟨#[98,111,97,114,100]⟩,.string ⟨#[97,32,114,111,108,101,32,119,104,111,115,101,32,110,97,109,101,32,105,115,32,109,117,99,104,32,116,111,111,32,108,111,110,103,32,102,111,114,32,105,116]⟩]
            first | exact h | (rw [World.size_alloc] at h; exact h)
          have Q48:=Lib.hid hq48
          clear hq48
          have Q42_48:=Lib.hid (Q42.out.alloc (.cells #[.string ⟨#[]⟩,.string ⟨#[98,111,97,114,100]⟩,.string ⟨#[97,32,114,111,108,101,32,119,104,111,115,101,32,110,97,109,101,32,105,115,32,109,117,99,104,32,116,111,111,32,108,111,110,103,32,102,111,114,32,105,116]⟩] 9))
          refine hKc.out _ _ G48.out.c5 (fun hHeld => ?_)
          clear hKc Kc
          try simp only [pt]
          refine wpAnyH_ready (rs:=[4]) (by kernel_rfl) (by simp) ?_
          refine AllReadyH.cons rfl (fun Kc hKc => ?_) AllReadyH.nil
          go_simp
          refine (G48.out.word [⟨#[119,104,97,116]⟩,⟨#[100,97,121]⟩,⟨#[110,111,116,104,105,110,103]⟩] 3 Q42_48.out (by omega) rfl (by omega) (by omega) (by decide)).mono ?_
          rintro e v49 ⟨xa,hxa,rfl,hz,hgz⟩
          have G49:=Lib.hid hz
          have hl49:=G49.out.lt
          have hqQ4849:Blk v49 (w6.heap.size+1) 9 #[.string ⟨#[]⟩,.string ⟨#[98,111,97,114,100]⟩,.string ⟨#[97,32,114,111,108,101,32,119,104,111,115,101,32,110,97,109,101,32,105,115,32,109,117,99,104,32,116,111,111,32,108,111,110,103,32,102,111,114,32,105,116]⟩]:=(hgz.block _ Q48.out.lt (by intro e; injection e; omega)).trans Q48.out
          have Q48_49:=Lib.hid hqQ4849
          clear hqQ4849
          clear hz hgz
          refine hKc.out _ _ G49.out.c5 (fun hHeld => ?_)
          clear hKc Kc
          try simp only [pt]
          refine wpAnyH_ready (rs:=[7]) (by kernel_rfl) (by simp) ?_
          refine AllReadyH.cons rfl (fun Kc hKc => ?_) AllReadyH.nil
          go_simp
          refine (G49.out.word [⟨#[]⟩,⟨#[98,111,97,114,100]⟩,⟨#[97,32,114,111,108,101,32,119,104,111,115,101,32,110,97,109,101,32,105,115,32,109,117,99,104,32,116,111,111,32,108,111,110,103,32,102,111,114,32,105,116]⟩] 3 Q48_49.out (by omega) rfl (by omega) (by omega) (by decide)).mono ?_
          rintro e v50 ⟨xb,hxb,rfl,hz,hgz⟩
          have G50:=Lib.hid hz
          have hl50:=G50.out.lt
          clear hz hgz
          refine hKc.out _ _ G50.out.c5 (fun hHeld => ?_)
          clear hKc Kc
          try simp only [pt]
          refine t1 8 rfl ?_
          try simp only [pt]
          refine wpAnyH_ready (rs:=[9]) (by kernel_rfl) (by simp) ?_
          refine AllReadyH.cons rfl (fun Kc hKc => ?_) AllReadyH.nil
          go_simp
          refine hKc.out _ _ (G50.out.alloc _).c5 (fun hHeld => ?_)
          clear hKc Kc
          try simp only [pt]
          refine wpAnyH_ready (rs:=[10]) (by kernel_rfl) (by simp) ?_
          refine AllReadyH.cons rfl (fun Kc hKc => ?_) AllReadyH.nil
          have OW:=Lib.hid G50.out.os
          have hlc:=G50.out.lt
          refine step_append_lies _ (by rfl) _ _ _ (by rfl) (w.heap.size+2) 49 j0 (.agg #[.string ⟨#[]⟩,.string ⟨#[]⟩]) 2 32 Tryz.underlying27 hj hy0 hy1 hy2 rfl (by omega) vs s.shw.length (shwC s.shw) (by rfl) (OW.out.alloc _) ⟨v50.heap.size,0,none⟩ 1 1 [.string xa,.string xb] (by rfl) (by rfl) (World.news_of_block (cs:=#[.string xa,.string xb]) (t:=49) (fr:=(0,0)) (heap_alloc_new v50 _)) (by intro u hu; simp at hu; rcases hu with rfl | rfl <;> rfl) (by omega) (by simp only [maxLen]; omega) (by omega) (by simp; omega) (v50.heap.size+1) (by simp) ?_
          intro gg cap w12 hown12 hgr12 hat12 hlt12
          have MO:=Lib.hid (G50.out.pushS (K':=K+1000) (a:=⟨xa,xb⟩) hown12 hgr12 (by omega) ⟨by show xa.size ≤ _; omega,by show xb.size ≤ _; omega⟩)
          have mc:=MO.out.2.1
          have mf:=MO.out.2.2
          clear hown12 hgr12 hat12 OW
          refine hKc.out _ _ mc (fun hHeld => ?_)
          clear hKc Kc
          try simp only [pt]
          refine t1 11 rfl ?_
          try simp only [pt]
          refine wpAnyH_done (by kernel_rfl) ?_ _
          refine lastQ_step (by rfl) (by rfl) ?_
          go_simp
          (try go_wp2_with fail)
          go_meet
          exact MO.out.1.finS (Nat.le_refl _)
      · go_simp
        have G53:=Lib.hid (HD7.out.alloc (.cells #[.string ⟨#[]⟩,.string ⟨#[98,111,97,114,100]⟩,.string ⟨#[97,32,114,111,108,101,32,119,104,111,115,101,32,110,97,109,101,32,105,115,32,109,117,99,104,32,116,111,111,32,108,111,110,103,32,102,111,114,32,105,116]⟩] 9))
        have hq53:Blk (w6.drew.alloc (.cells #[.string ⟨#[]⟩,.string ⟨#[98,111,97,114,100]⟩,.string ⟨#[97,32,114,111,108,101,32,119,104,111,115,101,32,110,97,109,101,32,105,115,32,109,117,99,104,32,116,111,111,32,108,111,110,103,32,102,111,114,32,105,116]⟩] 9)) (w6.heap.size) 9 #[.string ⟨#[]⟩,.string ⟨#[98,111,97,114,100]⟩,.string ⟨#[97,32,114,111,108,101,32,119,104,111,115,101,32,110,97,109,101,32,105,115,32,109,117,99,104,32,116,111,111,32,108,111,110,103,32,102,111,114,32,105,116]⟩]:=by
          have h:=Blk.new w6.drew 9 #[.string ⟨#[]⟩,.string ⟨#[98,111,97,114,100]⟩,.string ⟨#[97,32,114,111,108,101,32,119,104,111,115,101,32,110,97,109,101,32,105,115,32,109,117,99,104,32,116,111,111,32,108,111,110,103,32,102,111,114,32,105,116]⟩]
          first | exact h | (rw [World.size_alloc] at h; exact h)
        have Q53:=Lib.hid hq53
        clear hq53
        refine hKc.out _ _ G53.out.c5 (fun hHeld => ?_)
        clear hKc Kc
        try simp only [pt]
        refine wpAnyH_ready (rs:=[3]) (by kernel_rfl) (by simp) ?_
        refine AllReadyH.cons rfl (fun Kc hKc => ?_) AllReadyH.nil
        go_simp
        have G54:=Lib.hid (G53.out.alloc (.cells #[.string ⟨#[119,104,97,116]⟩,.string ⟨#[100,97,121]⟩,.string ⟨#[110,111,116,104,105,110,103]⟩] 9))
        have hq54:Blk ((w6.drew.alloc (.cells #[.string ⟨#[]⟩,.string ⟨#[98,111,97,114,100]⟩,.string ⟨#[97,32,114,111,108,101,32,119,104,111,115,101,32,110,97,109,101,32,105,115,32,109,117,99,104,32,116,111,111,32,108,111,110,103,32,102,111,114,32,105,116]⟩] 9)).alloc (.cells #[.string ⟨#[119,104,97,116]⟩,.string ⟨#[100,97,121]⟩,.string ⟨#[110,111,116,104,105,110,103]⟩] 9)) (w6.heap.size+1) 9 #[.string ⟨#[119,104,97,116]⟩,.string ⟨#[100,97,121]⟩,.string ⟨#[110,111,116,104,105,110,103]⟩]:=by
          have h:=Blk.new (w6.drew.alloc (.cells #[.string ⟨#[]⟩,.string ⟨#[98,111,97,114,100]⟩,.string ⟨#[97,32,114,111,108,101,32,119,104,111,115,101,32,110,97,109,101,32,105,115,32,109,117,99,104,32,116,111,111,32,108,111,110,103,32,102,111,114,32,105,116]⟩] 9)) 9 #[.string ⟨#[119,104,97,116]⟩,.string ⟨#[100,97,121]⟩,.string ⟨#[110,111,116,104,105,110,103]⟩]
          first | exact h | (rw [World.size_alloc] at h; exact h)
        have Q54:=Lib.hid hq54
        clear hq54
        have Q53_54:=Lib.hid (Q53.out.alloc (.cells #[.string ⟨#[119,104,97,116]⟩,.string ⟨#[100,97,121]⟩,.string ⟨#[110,111,116,104,105,110,103]⟩] 9))
        refine hKc.out _ _ G54.out.c5 (fun hHeld => ?_)
        clear hKc Kc
        try simp only [pt]
        refine wpAnyH_ready (rs:=[4]) (by kernel_rfl) (by simp) ?_
        refine AllReadyH.cons rfl (fun Kc hKc => ?_) AllReadyH.nil
        go_simp
        refine (G54.out.word [⟨#[119,104,97,116]⟩,⟨#[100,97,121]⟩,⟨#[110,111,116,104,105,110,103]⟩] 3 Q54.out (by omega) rfl (by omega) (by omega) (by decide)).mono ?_
        rintro e v55 ⟨xa,hxa,rfl,hz,hgz⟩
        have G55:=Lib.hid hz
        have hl55:=G55.out.lt
        have hqQ53_5455:Blk v55 (w6.heap.size) 9 #[.string ⟨#[]⟩,.string ⟨#[98,111,97,114,100]⟩,.string ⟨#[97,32,114,111,108,101,32,119,104,111,115,101,32,110,97,109,101,32,105,115,32,109,117,99,104,32,116,111,111,32,108,111,110,103,32,102,111,114,32,105,116]⟩]:=(hgz.block _ Q53_54.out.lt (by intro e; injection e; omega)).trans Q53_54.out
        have Q53_54_55:=Lib.hid hqQ53_5455
        clear hqQ53_5455
        clear hz hgz
        refine hKc.out _ _ G55.out.c5 (fun hHeld => ?_)
        clear hKc Kc
        try simp only [pt]
        refine wpAnyH_ready (rs:=[7]) (by kernel_rfl) (by simp) ?_
        refine AllReadyH.cons rfl (fun Kc hKc => ?_) AllReadyH.nil
        go_simp
        refine (G55.out.word [⟨#[]⟩,⟨#[98,111,97,114,100]⟩,⟨#[97,32,114,111,108,101,32,119,104,111,115,101,32,110,97,109,101,32,105,115,32,109,117,99,104,32,116,111,111,32,108,111,110,103,32,102,111,114,32,105,116]⟩] 3 Q53_54_55.out (by omega) rfl (by omega) (by omega) (by decide)).mono ?_
        rintro e v56 ⟨xb,hxb,rfl,hz,hgz⟩
        have G56:=Lib.hid hz
        have hl56:=G56.out.lt
        clear hz hgz
        refine hKc.out _ _ G56.out.c5 (fun hHeld => ?_)
        clear hKc Kc
        try simp only [pt]
        refine t1 8 rfl ?_
        try simp only [pt]
        refine wpAnyH_ready (rs:=[9]) (by kernel_rfl) (by simp) ?_
        refine AllReadyH.cons rfl (fun Kc hKc => ?_) AllReadyH.nil
        go_simp
        refine hKc.out _ _ (G56.out.alloc _).c5 (fun hHeld => ?_)
        clear hKc Kc
        try simp only [pt]
        refine wpAnyH_ready (rs:=[10]) (by kernel_rfl) (by simp) ?_
        refine AllReadyH.cons rfl (fun Kc hKc => ?_) AllReadyH.nil
        have OW:=Lib.hid G56.out.os
        have hlc:=G56.out.lt
        refine step_append_lies _ (by rfl) _ _ _ (by rfl) (w.heap.size+2) 49 j0 (.agg #[.string ⟨#[]⟩,.string ⟨#[]⟩]) 2 32 Tryz.underlying27 hj hy0 hy1 hy2 rfl (by omega) vs s.shw.length (shwC s.shw) (by rfl) (OW.out.alloc _) ⟨v56.heap.size,0,none⟩ 1 1 [.string xa,.string xb] (by rfl) (by rfl) (World.news_of_block (cs:=#[.string xa,.string xb]) (t:=49) (fr:=(0,0)) (heap_alloc_new v56 _)) (by intro u hu; simp at hu; rcases hu with rfl | rfl <;> rfl) (by omega) (by simp only [maxLen]; omega) (by omega) (by simp; omega) (v56.heap.size+1) (by simp) ?_
        intro gg cap w12 hown12 hgr12 hat12 hlt12
        have MO:=Lib.hid (G56.out.pushS (K':=K+1000) (a:=⟨xa,xb⟩) hown12 hgr12 (by omega) ⟨by show xa.size ≤ _; omega,by show xb.size ≤ _; omega⟩)
        have mc:=MO.out.2.1
        have mf:=MO.out.2.2
        clear hown12 hgr12 hat12 OW
        refine hKc.out _ _ mc (fun hHeld => ?_)
        clear hKc Kc
        try simp only [pt]
        refine t1 11 rfl ?_
        try simp only [pt]
        refine wpAnyH_done (by kernel_rfl) ?_ _
        refine lastQ_step (by rfl) (by rfl) ?_
        go_simp
        (try go_wp2_with fail)
        go_meet
        exact MO.out.1.finS (Nat.le_refl _)
    · as_aux_lemma =>
      obtain ⟨Av,n,cv,hva,hn⟩:∃ Av n cv,va=.slice Av n cv ∧ n=s.ans.length:=by
        obtain ⟨Av,cv,e⟩:=own_slice H6.out.oa
        exact ⟨Av,_,cv,e,rfl⟩
      subst hva
      have hnc7:n ≤ cv:=by
        obtain ⟨_,_,_,e,_,h,_⟩:=AnssAt.of_own H6.out.oa
        injection e with e1 e2 e3
        omega
      have c3:=H6.out.drew.c3
      have hn5:n ≤ 50000:=by omega
      have HNN:=Lib.hid hn
      have HD7:=Lib.hid H6.out.drew
      have hwr:IntKind.i64.wrap ((n:Int)+1)=((n+1:Nat):Int):=by rw [IntKind.wrap_i64]; omega
      clear hn
      go_upto_region 20 with fail
      refine wp_region_last_lit _ _ (fun W => W.cell? ⟨w.heap.size,3,none⟩=some (.slice Av n cv)) hmx rfl (by kernel_rfl) c3 (fun hHeld => ?_)
      simp only [List.dropLast]
      refine t1 0 rfl ?_
      try simp only [pt]
      refine t1 1 rfl ?_
      try simp only [pt]
      refine t1 2 rfl ?_
      try simp only [pt]
      refine t1 3 rfl ?_
      try simp only [pt]
      refine t1 4 rfl ?_
      try simp only [pt]
      refine t1 5 rfl ?_
      try simp only [pt]
      refine t1 6 rfl ?_
      try simp only [pt]
      refine wpAnyH_ready (rs:=[7]) (by kernel_rfl) (by simp) ?_
      refine AllReadyH.cons rfl (fun Kc hKc => ?_) AllReadyH.nil
      go_simp
      refine (HD7.out.next (n+1) (by omega) (by omega)).mono ?_
      rintro e w7 ⟨k,hk,rfl,h7,-⟩
      have H7:=Lib.hid h7
      have q0:(0:Int) ≤ (k:Int):=by omega
      have q1:(k:Int) ≤ (cv:Int):=by omega
      have q2:k ≤ cv:=by omega
      clear h7
      refine hKc.out _ _ H7.out.c3 (fun hHeld => ?_)
      clear hKc Kc
      try simp only [pt]
      refine t1 8 rfl ?_
      try simp only [pt]
      refine t1 9 rfl ?_
      try simp only [pt]
      refine wpAnyH_done (by kernel_rfl) ?_ _
      have g3:=H7.out.fz 3
      have c37:=H7.out.c3
      refine lastQ_step (by rfl) (by rfl) ?_
      go_simp
      (try go_wp2_with fail)
      go_meet
      exact (H7.out.cutA HNN.out (by omega)).finS (by omega)
    · as_aux_lemma =>
      have e0:((r:Int) == 0)=false:=by simp; omega
      have e1:((r:Int) == 1)=false:=by simp; omega
      have e2:((r:Int) == 2)=false:=by simp; omega
      have e3:((r:Int) == 3)=false:=by simp; omega
      have e4:((r:Int) == 4)=false:=by simp; omega
      have e5:((r:Int) == 5)=false:=by simp; omega
      have e6:((r:Int) == 6)=false:=by simp; omega
      have e7:((r:Int) == 7)=false:=by simp; omega
      go_wp2_with fail
      go_meet
      exact H6.out.finS (by omega)
  case rest =>
  obtain ⟨s2,Aa2,na2,ca2,Ac2,nc2,cc2,As2,ns2,cs2,hbk,hres,hfin⟩:=hcut
  rename World => w9
  have c0:=(hbk.cell 0).trans (show _=some (Value.string s2.resp) from rfl)
  have c1:=(hbk.cell 1).trans (show _=some (Value.int .i64 s2.dep) from rfl)
  have c2:=(hbk.cell 2).trans (show _=some (Value.int .i64 s2.day) from rfl)
  have c3:=(hbk.cell 3).trans (show _=some (Value.slice Aa2 na2 ca2) from rfl)
  have c4:=(hbk.cell 4).trans (show _=some (Value.slice Ac2 nc2 cc2) from rfl)
  have c5:=(hbk.cell 5).trans (show _=some (Value.slice As2 ns2 cs2) from rfl)
  have r0:=(hres.cell 0).trans (show _=some (Value.string ⟨#[]⟩) from rfl)
  have r1:=(hres.cell 1).trans (show _=some (Value.int .i64 0) from rfl)
  have r2:=(hres.cell 2).trans (show _=some (Value.int .i64 0) from rfl)
  have r3:=(hres.cell 3).trans (show _=some (Value.slice none 0 0) from rfl)
  have r4:=(hres.cell 4).trans (show _=some (Value.slice none 0 0) from rfl)
  have r5:=(hres.cell 5).trans (show _=some (Value.slice none 0 0) from rfl)
  have g0:=hres.frozen 0
  have g1:=hres.frozen 1
  have g2:=hres.frozen 2
  have g3:=hres.frozen 3
  have g4:=hres.frozen 4
  have g5:=hres.frozen 5
  have HFI:=Lib.hid hfin
  clear hfin hbk hres H6 HK HSI
  go_wp2_with fail
  obtain ⟨fin,hb⟩:=HFI.out _ rfl
  refine bodyPost_ret (v:=.agg #[.string s2.resp,.int .i64 s2.dep,.int .i64 s2.day,.slice Aa2 na2 ca2,.slice Ac2 nc2 cc2,.slice As2 ns2 cs2]) ?_ rfl fin
  simp [results,Tryz.results10,go_sem,(hb.cell 0).trans (show _=some (Value.string s2.resp) from rfl),(hb.cell 1).trans (show _=some (Value.int .i64 s2.dep) from rfl),(hb.cell 2).trans (show _=some (Value.int .i64 s2.day) from rfl),(hb.cell 3).trans (show _=some (Value.slice Aa2 na2 ca2) from rfl),(hb.cell 4).trans (show _=some (Value.slice Ac2 nc2 cc2) from rfl),(hb.cell 5).trans (show _=some (Value.slice As2 ns2 cs2) from rfl)]
end Go.Proofs.YtfinaekeoeeogaaGreatDoor

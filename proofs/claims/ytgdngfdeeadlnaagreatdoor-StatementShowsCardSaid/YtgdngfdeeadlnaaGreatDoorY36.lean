/- Contracts: what a role may see of a statement: Visible. -/
import Derived.Test.YtgdngfdeeadlnaaGreatDoorY35
import Derived.Test.YtgdngfdeeadlnaaGreatDoorY29
import Derived.ArgAppend
set_option linter.unusedVariables false
set_option linter.unusedSimpArgs false
namespace Go.Proofs.YtgdngfdeeadlnaaGreatDoor
open Go.RowKit Num
set_option maxRecDepth 100000 in
set_option maxHeartbeats 2000000 in
theorem v_Sees (f : ByteArray) (sb rb : Nat) (W : World) (r : ByteArray) (s : Stm) (va vc vs : Value) (hs : Blk W sb 29 #[.string s.resp,.int .i64 s.dep,.int .i64 s.day,va,vc,vs]) (hr : Blk W rb 9 #[.string r]) (hv : ShwsAt W (· < W.heap.size) vs s.shw) (hl : s.shw.length ≤ 1000000) :
  Calls Tryz.prog 36 #[.string f,.pointer (some ⟨sb,0,none⟩),.pointer (some ⟨rb,0,none⟩)] W fun e w' => e=.returned (.bool (seesS s.shw r f)) ∧ Below W.heap.size W w':=by
 obtain ⟨A,n,c,rfl,-⟩:=id hv
 have c5:=(hs.cell 5).trans (show _=some (Value.slice A n c) from rfl)
 have c0:=(hr.cell 0).trans (show _=some (Value.string r) from rfl)
 have HV:=Lib.hid hv
 have HL:=Lib.hid hl
 clear hv hl hs hr
 go_enter Tryz.func36,Tryz.ntmps36
 go_wp2_with (go_at_call 37; refine (q_ContainsS _ ⟨f,r⟩ _ _ HV.out HL.out).mono ?_; rintro e w' ⟨b,rfl,hb,hbe⟩; have HB:=Lib.hid hb; have HE:=Lib.hid hbe; clear hb hbe)
 go_ret
 exact ⟨by rw [sees_bool HB.out]; rfl,HE.out⟩
structure VSt (w W : World) (s : Stm) (r : ByteArray) (va vc vs : Value) (x : ByteArray) (d y : Int) (L : List Ans) (v' : Value) : Prop where
  old : Below w.heap.size w W
  sbx : Blk W w.heap.size 29 #[.string s.resp, .int .i64 s.dep, .int .i64 s.day, va, vc, vs]
  rbx : Blk W (w.heap.size + 1) 9 #[.string r]
  res : Blk W (w.heap.size + 2) 29 stmZ
  out : Blk W (w.heap.size + 3) 29 #[.string x, .int .i64 d, .int .i64 y, v', .slice none 0 0, .slice none 0 0]
  row : W.ownsRow (w.heap.size + 3) 50 3 v' L.length (ansC L)
  at_ : StmAt W (· < w.heap.size) va vc vs s
def VisE (s : Stm) (r : ByteArray) (w : World) (e : Ending) (w' : World) : Prop := ∃ Aa na ca,e = .returned (.agg #[.string (visS s r).resp,.int .i64 (visS s r).dep,.int .i64 (visS s r).day,.slice Aa na ca,.slice none 0 0,.slice none 0 0]) ∧ AnssAt w' (fun b => w.heap.size ≤ b ∧ b < w'.heap.size) (.slice Aa na ca) (visS s r).ans ∧ Below w.heap.size w w'
section
variable {w W W' : World} {s : Stm} {r : ByteArray} {va vc vs v' v2 : Value} {x x' : ByteArray} {d y d' y' : Int} {L : List Ans} {o : Obj}
theorem VSt.below (h : VSt w W s r va vc vs x d y L v') (hb : Below W.heap.size W W') : VSt w W' s r va vc vs x d y L v' := by
 have ho:=h.old.size
 have l1:=h.sbx.lt
 have l2:=h.rbx.lt
 have l3:=h.res.lt
 have l4:=h.out.lt
 refine ⟨h.old.trans (hb.mono ho),h.sbx.below' hb l1,h.rbx.below' hb l2,h.res.below' hb l3,h.out.below' hb l4,h.row.kept (only_of_below hb none) ?_,h.at_.keep fun q hq => hb.block q (by omega)⟩
 rcases hq:v'.ownBlock with _ | q
 ·exact .inl rfl
 ·exact .inr (by simp)
theorem VSt.alloc (h : VSt w W s r va vc vs x d y L v') (o : Obj) : VSt w (W.alloc o) s r va vc vs x d y L v' := h.below (below_al' W o)
theorem VSt.sees (h : VSt w W s r va vc vs x d y L v') (hl : s.shw.length ≤ 1000000) (f : ByteArray) : Calls Tryz.prog 36 #[.string f,.pointer (some ⟨w.heap.size,0,none⟩),.pointer (some ⟨w.heap.size + 1,0,none⟩)] W fun e W' => e = .returned (.bool (seesS s.shw r f)) ∧ Below W.heap.size W W' ∧ VSt w W' s r va vc vs x d y L v' :=
 (v_Sees f w.heap.size (w.heap.size+1) W r s va vc vs h.sbx h.rbx (h.at_.ss.mono fun b hb => Nat.lt_of_lt_of_le hb h.old.size) hl).mono fun e W' hh => ⟨hh.1,hh.2,h.below hh.2⟩
theorem VSt.set (h : VSt w W s r va vc vs x d y L v') (i : Nat) (v : Value) (hb : Blk (W.setCell ⟨w.heap.size + 3,i,none⟩ v) (w.heap.size + 3) 29 #[.string x',.int .i64 d',.int .i64 y',v',.slice none 0 0,.slice none 0 0]) : VSt w (W.setCell ⟨w.heap.size + 3,i,none⟩ v) s r va vc vs x' d' y' L v' := by
 have hset:W.grownBy (W.setCell ⟨w.heap.size+3,i,none⟩ v) (some (w.heap.size+3)):=grown_setCell W ⟨w.heap.size+3,i,none⟩ v
 have l4:=h.out.lt
 have kb:∀ q,q < w.heap.size+3 → (W.setCell ⟨w.heap.size+3,i,none⟩ v).heap[q]?=W.heap[q]?:=fun q hq => hset.block q (by omega) (fun e => by injection e; omega)
 exact ⟨⟨hset.os.trans h.old.os,hset.tape.trans h.old.tape,hset.output.trans h.old.output,Nat.le_trans h.old.size hset.size,fun q hq => (kb q (by omega)).trans (h.old.block q hq)⟩,
  (kb _ (by omega)).trans h.sbx,(kb _ (by omega)).trans h.rbx,(kb _ (by omega)).trans h.res,hb,h.row.kept hset (.inr fun e => by have:=own_above h.row h.out (by decide) _ e; omega),h.at_.keep fun q hq => kb q (by omega)⟩
theorem VSt.push (h : VSt w W s r va vc vs x d y L v') {a : Ans} (hown : W'.ownsRow (w.heap.size + 3) 50 3 v2 (L.length + 1) (ansC L ++ [.string a.field,.string a.text,.int .i64 a.num])) (hg : (W.alloc o).grownBy W' v'.ownBlock) :
  VSt w (W'.setCell ⟨w.heap.size+3,3,none⟩ v2) s r va vc vs x d y (L ++ [a]) v2 ∧ W'.cell? ⟨w.heap.size+3,3,none⟩=some v' ∧ W'.frozen? ⟨w.heap.size+3,3,none⟩=false:=by
 have hva:=own_above h.row h.out (by decide)
 have l4:=h.out.lt
 have hsz:=hg.size
 simp only [World.size_alloc] at hsz
 have kl:∀ q,q ≤ w.heap.size+3 → W'.heap[q]?=W.heap[q]?:=fun q hq => (hg.block q (by simp; omega) (fun e => by have:=hva q e.symm; omega)).trans (Below.heap_alloc W o q (by omega))
 have hb:Blk W' (w.heap.size+3) 29 #[.string x,.int .i64 d,.int .i64 y,v',.slice none 0 0,.slice none 0 0]:=(kl _ (Nat.le_refl _)).trans h.out
 have hset:W'.grownBy (W'.setCell ⟨w.heap.size+3,3,none⟩ v2) (some (w.heap.size+3)):=grown_setCell W' ⟨w.heap.size+3,3,none⟩ v2
 have k3:∀ q,q < w.heap.size+3 → (W'.setCell ⟨w.heap.size+3,3,none⟩ v2).heap[q]?=W.heap[q]?:=fun q hq => (hset.block q (by omega) (fun e => by injection e; omega)).trans (kl q (by omega))
 refine ⟨⟨⟨hset.os.trans (hg.os.trans h.old.os),hset.tape.trans (hg.tape.trans h.old.tape),hset.output.trans (hg.output.trans h.old.output),by have:=h.old.size; have:=hset.size; omega,fun q hq => (k3 q (by omega)).trans (h.old.block q hq)⟩,
  (k3 _ (by omega)).trans h.sbx,(k3 _ (by omega)).trans h.rbx,(k3 _ (by omega)).trans h.res,hb.set_ 3 v2,?_,h.at_.keep fun q hq => k3 q (by omega)⟩,(hb.cell 3).trans rfl,hb.frozen 3⟩
 rw [List.length_append,ansC_snoc]
 exact hown.kept hset (.inr fun e => by have:=own_above hown hb (by decide) _ e; omega)
theorem VSt.fin (h : VSt w W s r va vc vs x d y L v') : ∃ Aa ca,v' = .slice Aa L.length ca ∧
  ∀ W2,W2=(((((W.setCell ⟨w.heap.size+2,0,none⟩ (.string x)).setCell ⟨w.heap.size+2,1,none⟩ (.int .i64 d)).setCell ⟨w.heap.size+2,2,none⟩ (.int .i64 y)).setCell ⟨w.heap.size+2,3,none⟩ v').setCell ⟨w.heap.size+2,4,none⟩ (.slice none 0 0)).setCell ⟨w.heap.size+2,5,none⟩ (.slice none 0 0) →
   Blk W2 (w.heap.size+2) 29 #[.string x,.int .i64 d,.int .i64 y,v',.slice none 0 0,.slice none 0 0] ∧ AnssAt W2 (fun b => w.heap.size ≤ b ∧ b < W2.heap.size) v' L ∧ Below w.heap.size w W2:=by
 obtain ⟨Aa,ca,rfl⟩:=own_slice h.row
 refine ⟨Aa,ca,rfl,fun W2 hW2 => ?_⟩
 have hc:Chg W W2 (fun q => q=w.heap.size+2):=by
  rw [hW2]
  exact Chg.setCell (Chg.setCell (Chg.setCell (Chg.setCell (Chg.setCell (Chg.setCell (Chg.refl W (fun q => q=w.heap.size+2)) ⟨w.heap.size+2,0,none⟩ (fun _ => rfl) _) ⟨w.heap.size+2,1,none⟩ (fun _ => rfl) _) ⟨w.heap.size+2,2,none⟩ (fun _ => rfl) _) ⟨w.heap.size+2,3,none⟩ (fun _ => rfl) _) ⟨w.heap.size+2,4,none⟩ (fun _ => rfl) _) ⟨w.heap.size+2,5,none⟩ (fun _ => rfl) _
 have hb:Blk W2 (w.heap.size+2) 29 #[.string x,.int .i64 d,.int .i64 y,.slice Aa L.length ca,.slice none 0 0,.slice none 0 0]:=by
  rw [hW2]
  exact (((((h.res.set_ 0 _).set_ 1 _).set_ 2 _).set_ 3 _).set_ 4 _).set_ 5 _
 have hs:=hc.size
 have ho:=h.old.size
 refine ⟨hb,((AnssAt.of_own h.row).keep fun q hq => hc.block q hq.2 (by omega)).mono fun q hq => ⟨by omega,by omega⟩,⟨hc.os.trans h.old.os,hc.tape.trans h.old.tape,hc.output.trans h.old.output,Nat.le_trans ho hs,fun q hq => (hc.block q (Nat.lt_of_lt_of_le hq ho) (by omega)).trans (h.old.block q hq)⟩⟩
end
set_option maxRecDepth 100000 in
set_option maxHeartbeats 4000000 in
theorem v_Visible (s : Stm) (r : ByteArray) (va vc vs : Value) (w : World) (h : StmAt w (· < w.heap.size) va vc vs s) (hok : StmOk s) :
  Calls Tryz.prog 13 #[.agg #[.string s.resp,.int .i64 s.dep,.int .i64 s.day,va,vc,vs],.string r] w (VisE s r w):=by
 obtain ⟨i0,hi,hz0,hz1,hz2⟩:=info_parts infoAn
 obtain ⟨Aa,n,ca,rfl,hn,hnc,hA⟩:=id h.aa
 obtain ⟨Ac,nc,cc,rfl,-⟩:=id h.cc
 obtain ⟨As,ns,cs,rfl,-⟩:=id h.ss
 have hn1:n ≤ 1000000:=by have:=hok.an; omega
 have hl:=hok.sn
 have h0:∀ W,W=((((w.alloc (.cells #[.string s.resp,.int .i64 s.dep,.int .i64 s.day,.slice Aa n ca,.slice Ac nc cc,.slice As ns cs] 29)).alloc (.cells #[.string r] 9)).alloc (.cells stmZ 29)).alloc (.cells stmZ 29)) → VSt w W s r (.slice Aa n ca) (.slice Ac nc cc) (.slice As ns cs) ⟨#[]⟩ 0 0 [] (.slice none 0 0):=fun W hW => by
  subst hW
  have b0:=Blk.new w 29 #[.string s.resp,.int .i64 s.dep,.int .i64 s.day,.slice Aa n ca,.slice Ac nc cc,.slice As ns cs]
  have b1:=Blk.new (w.alloc (.cells #[.string s.resp,.int .i64 s.dep,.int .i64 s.day,.slice Aa n ca,.slice Ac nc cc,.slice As ns cs] 29)) 9 #[.string r]
  have b2:=Blk.new ((w.alloc (.cells #[.string s.resp,.int .i64 s.dep,.int .i64 s.day,.slice Aa n ca,.slice Ac nc cc,.slice As ns cs] 29)).alloc (.cells #[.string r] 9)) 29 stmZ
  have b3:=Blk.new (((w.alloc (.cells #[.string s.resp,.int .i64 s.dep,.int .i64 s.day,.slice Aa n ca,.slice Ac nc cc,.slice As ns cs] 29)).alloc (.cells #[.string r] 9)).alloc (.cells stmZ 29)) 29 stmZ
  simp only [World.size_alloc] at b1 b2 b3
  have hb:Below w.heap.size w ((((w.alloc (.cells #[.string s.resp,.int .i64 s.dep,.int .i64 s.day,.slice Aa n ca,.slice Ac nc cc,.slice As ns cs] 29)).alloc (.cells #[.string r] 9)).alloc (.cells stmZ 29)).alloc (.cells stmZ 29)):=((((Below.refl _ w).alloc (Nat.le_refl _) _).alloc (by simp) _).alloc (by simp; omega) _).alloc (by simp; omega) _
  exact ⟨hb,((b0.alloc _).alloc _).alloc _,(b1.alloc _).alloc _,b2.alloc _,b3,World.ownsRow_nil _ _ _ _,h.keep fun b hB => hb.block b hB⟩
 have H0:=Lib.hid h0
 have HA:=Lib.hid hA
 have HN:=Lib.hid hn
 have HL:=Lib.hid hl
 clear h0 hA hn hl h hok
 go_enter Tryz.func13,Tryz.ntmps13
 go_wp2_with fail
 try rw [show w.heap.size+1+1+1=w.heap.size+3 from rfl]
 try rw [show w.heap.size+1+1=w.heap.size+2 from rfl]
 go_loopw [13] (fun v13 wr => ∃ (k:Nat) (v':Value),k ≤ n ∧ v13=.int .i64 (k:Int) ∧ VSt w wr s r (.slice Aa n ca) (.slice Ac nc cc) (.slice As ns cs) ⟨#[]⟩ 0 0 (visA s.shw r (s.ans.take k)) v') (fun v13 _ => n - (intOf v13).toNat)
 case atStart => exact ⟨0,_,by omega,rfl,H0.out _ rfl⟩
 case round =>
  obtain ⟨k,v',hk,rfl,hv⟩:=hrel
  rename World => wr
  obtain ⟨M,hM⟩:∃ M,visA s.shw r (s.ans.take k)=M:=⟨_,rfl⟩
  rw [hM] at hv
  obtain ⟨Av,cv,rfl⟩:=own_slice hv.row
  have hMl:M.length ≤ k:=by rw [← hM]; exact Nat.le_trans (visA_len _ _ _) (List.length_take_le _ _)
  have l4:=hv.out.lt
  have HV:=Lib.hid hv
  have HM:=Lib.hid hM
  clear hv hM
  by_cases hlt:k < n
  ·obtain ⟨b,off,rfl,hS,hc⟩:=HA.out (by omega)
   obtain ⟨x0,x1,x2⟩:=hc k hlt
   have hkl:k < s.ans.length:=by have:=HN.out; omega
   have htk:=visA_take (L:=s.shw) (r:=r) hkl
   rw [HM.out] at htk
   obtain ⟨a,ha⟩:∃ a,ansAt s.ans k=a:=⟨_,rfl⟩
   rw [ha] at x0 x1 x2 htk
   obtain ⟨fl,tx,nu⟩:=a
   have e0:wr.cell? ⟨b,off+k*3,none⟩=_:=(HV.out.old.cell (p:=⟨b,off+k*3,none⟩) hS).trans x0
   have e1:wr.cell? ⟨b,off+k*3+1,none⟩=_:=(HV.out.old.cell (p:=⟨b,off+k*3+1,none⟩) hS).trans x1
   have e2:wr.cell? ⟨b,off+k*3+2,none⟩=_:=(HV.out.old.cell (p:=⟨b,off+k*3+2,none⟩) hS).trans x2
   have zi:(k:Int) < (n:Int):=by omega
   have z0:(0:Int) ≤ (k:Int):=by omega
   have SEE:=Lib.hid ((HV.out.alloc (.cells #[.string fl,.string tx,.int .i64 nu] 50)).sees HL.out fl)
   have hab:=Blk.new wr 50 #[.string fl,.string tx,.int .i64 nu]
   have HAB:=Lib.hid hab
   clear x0 x1 x2 hc ha hab
   cases hs:seesS s.shw r fl
   ·have HT:=Lib.hid (htk.trans (by rw [show seesS s.shw r (⟨fl,tx,nu⟩:Ans).field=false from hs]; exact List.append_nil M):visA s.shw r (s.ans.take (k+1))=M)
    clear htk
    go_wp2_with (go_at_call 36; refine (SEE.out).mono ?_; rintro e w1 ⟨rfl,-,hv1⟩; rw [hs]; have HV1:=Lib.hid hv1; clear hv1)
    go_roundw
    case measure => simp [intOf]; omega
    case rel => exact ⟨k+1,_,by omega,by go_num,by rw [HT.out]; exact HV1.out⟩
   ·have HT:=Lib.hid (htk.trans (by rw [show seesS s.shw r (⟨fl,tx,nu⟩:Ans).field=true from hs]; rfl):visA s.shw r (s.ans.take (k+1))=M ++ [⟨fl,tx,nu⟩])
    clear htk
    go_wp2_with fail
    refine (SEE.out).mono ?_
    rintro e w1 ⟨rfl,hb1,hv1⟩
    rw [hs]
    have hsz1:=hb1.size
    simp only [World.size_alloc] at hsz1
    have bx:=HAB.out.below' hb1 (by simp)
    have d0:=(bx.cell 0).trans (show _=some (Value.string fl) from rfl)
    have d1:=(bx.cell 1).trans (show _=some (Value.string tx) from rfl)
    have d2:=(bx.cell 2).trans (show _=some (Value.int .i64 nu) from rfl)
    have c3:=(hv1.out.cell 3).trans (show _=some (Value.slice Av M.length cv) from rfl)
    have l5:=hv1.out.lt
    have O1:=Lib.hid hv1.row
    have HV1:=Lib.hid hv1
    have nw:=World.news_of_block (cs:=#[.string fl,.string tx,.int .i64 nu]) (t:=50) (fr:=(0,0)) (heap_alloc_new w1 (.cells #[.string fl,.string tx,.int .i64 nu] 50))
    have NW:=Lib.hid nw
    clear nw hv1 bx hb1
    go_wp2_with (at_builtin; refine wpList_append_own_at _ rfl _ _ 23 rfl (w.heap.size+3) 50 i0 (.agg #[.string ⟨#[]⟩,.string ⟨#[]⟩,.int .i64 0]) 3 40 Tryz.underlying23 hi hz0 hz1 hz2 rfl (by decide) (.slice Av M.length cv) M.length (ansC M) rfl (O1.out.alloc _) ⟨w1.heap.size,0,none⟩ 1 1 [.string fl,.string tx,.int .i64 nu] rfl rfl NW.out (by intro u hu; simp at hu; rcases hu with rfl | rfl | rfl <;> rfl) (by unfold maxLen; omega) (by omega) (by rw [World.size_alloc]; omega) ?_)
    intro v2 w3 hown2 hgrow2 _ hat2
    obtain ⟨A2,cc2,hv2⟩:=own_slice hown2
    subst hv2
    have MO:=Lib.hid (HV1.out.push (a:=⟨fl,tx,nu⟩) hown2 hgrow2)
    have mc:=MO.out.2.1
    have mf:=MO.out.2.2
    clear hown2 hgrow2 hat2 O1 HV1 c3 d0 d1 d2
    go_wp2_with fail
    go_roundw
    case measure => simp [intOf]; omega
    case rel => exact ⟨k+1,_,by omega,by go_num,by rw [HT.out]; exact MO.out.1⟩
  ·have zi:¬ (k:Int) < (n:Int):=by omega
   have hMs:M=visA s.shw r s.ans:=by rw [← HM.out,List.take_of_length_le (by have:=HN.out; omega)]
   obtain ⟨m,hm⟩:∃ m,M.length=m:=⟨_,rfl⟩
   rw [hm] at HV
   have HMS:=Lib.hid hMs
   have HMM:=Lib.hid hm
   clear hMs HM hMl hm
   go_wp2_with fail
   refine (HV.out.sees HL.out respB).mono ?_
   rintro e w10 ⟨rfl,hq0,hv0⟩
   have HW0:=Lib.hid hv0
   clear hq0 hv0 HV
   cases k0:seesS s.shw r respB
   ·go_wp2_with fail
    refine (HW0.out.sees HL.out deptB).mono ?_
    rintro e w11 ⟨rfl,hq1,hv1⟩
    have HW1:=Lib.hid hv1
    clear hq1 hv1 HW0
    cases k1:seesS s.shw r deptB
    ·go_wp2_with fail
     refine (HW1.out.sees HL.out dayB).mono ?_
     rintro e w12 ⟨rfl,hq2,hv2⟩
     have HW2:=Lib.hid hv2
     clear hq2 hv2 HW1
     cases k2:seesS s.shw r dayB
     ·go_upto_region 15 with fail
      have c0:=(HW2.out.out.cell 0).trans (show _=some (Value.string ⟨#[]⟩) from rfl)
      have c1:=(HW2.out.out.cell 1).trans (show _=some (Value.int .i64 0) from rfl)
      have c2:=(HW2.out.out.cell 2).trans (show _=some (Value.int .i64 0) from rfl)
      have c3:=(HW2.out.out.cell 3).trans (show _=some (Value.slice Av m cv) from rfl)
      have c4:=(HW2.out.out.cell 4).trans (show _=some (Value.slice none 0 0) from rfl)
      have c5:=(HW2.out.out.cell 5).trans (show _=some (Value.slice none 0 0) from rfl)
      have r0:=(HW2.out.res.cell 0).trans (show _=some (Value.string ⟨#[]⟩) from rfl)
      have r1:=(HW2.out.res.cell 1).trans (show _=some (Value.int .i64 0) from rfl)
      have r2:=(HW2.out.res.cell 2).trans (show _=some (Value.int .i64 0) from rfl)
      have r3:=(HW2.out.res.cell 3).trans (show _=some (Value.slice none 0 0) from rfl)
      have r4:=(HW2.out.res.cell 4).trans (show _=some (Value.slice none 0 0) from rfl)
      have r5:=(HW2.out.res.cell 5).trans (show _=some (Value.slice none 0 0) from rfl)
      have g0:=HW2.out.res.frozen 0
      have g1:=HW2.out.res.frozen 1
      have g2:=HW2.out.res.frozen 2
      have g3:=HW2.out.res.frozen 3
      have g4:=HW2.out.res.frozen 4
      have g5:=HW2.out.res.frozen 5
      go_wp2_with fail
      obtain ⟨A9,c9,e9,fin⟩:=HW2.out.fin
      obtain ⟨hb,hat,hbl⟩:=fin _ rfl
      rw [HMS.out] at hat
      have hV:VisE s r w (.returned (.agg #[.string ⟨#[]⟩,.int .i64 0,.int .i64 0,.slice Av m cv,.slice none 0 0,.slice none 0 0])) _:=⟨Av,m,cv,by unfold visS; simp only [k0,k1,k2]; rfl,hat,hbl⟩
      refine bodyPost_ret (v:=.agg #[.string ⟨#[]⟩,.int .i64 0,.int .i64 0,.slice Av m cv,.slice none 0 0,.slice none 0 0]) ?_ rfl hV
      simp [results,Tryz.results13,go_sem,(hb.cell 0).trans (show _=some (Value.string ⟨#[]⟩) from rfl),(hb.cell 1).trans (show _=some (Value.int .i64 0) from rfl),(hb.cell 2).trans (show _=some (Value.int .i64 0) from rfl),(hb.cell 3).trans (show _=some (Value.slice Av m cv) from rfl),(hb.cell 4).trans (show _=some (Value.slice none 0 0) from rfl),(hb.cell 5).trans (show _=some (Value.slice none 0 0) from rfl)]
     ·have s2:=(HW2.out.sbx.cell 2).trans (show _=some (Value.int .i64 s.day) from rfl)
      have o2:=(HW2.out.out.cell 2).trans (show _=some (Value.int .i64 0) from rfl)
      have f2:=HW2.out.out.frozen 2
      have HX2:=Lib.hid (HW2.out.set (x':=⟨#[]⟩) (d':=0) (y':=s.day) 2 (.int .i64 s.day) (HW2.out.out.set_ 2 _))
      go_upto_region 15 with fail
      clear HW2 s2 o2 f2
      have c0:=(HX2.out.out.cell 0).trans (show _=some (Value.string ⟨#[]⟩) from rfl)
      have c1:=(HX2.out.out.cell 1).trans (show _=some (Value.int .i64 0) from rfl)
      have c2:=(HX2.out.out.cell 2).trans (show _=some (Value.int .i64 s.day) from rfl)
      have c3:=(HX2.out.out.cell 3).trans (show _=some (Value.slice Av m cv) from rfl)
      have c4:=(HX2.out.out.cell 4).trans (show _=some (Value.slice none 0 0) from rfl)
      have c5:=(HX2.out.out.cell 5).trans (show _=some (Value.slice none 0 0) from rfl)
      have r0:=(HX2.out.res.cell 0).trans (show _=some (Value.string ⟨#[]⟩) from rfl)
      have r1:=(HX2.out.res.cell 1).trans (show _=some (Value.int .i64 0) from rfl)
      have r2:=(HX2.out.res.cell 2).trans (show _=some (Value.int .i64 0) from rfl)
      have r3:=(HX2.out.res.cell 3).trans (show _=some (Value.slice none 0 0) from rfl)
      have r4:=(HX2.out.res.cell 4).trans (show _=some (Value.slice none 0 0) from rfl)
      have r5:=(HX2.out.res.cell 5).trans (show _=some (Value.slice none 0 0) from rfl)
      have g0:=HX2.out.res.frozen 0
      have g1:=HX2.out.res.frozen 1
      have g2:=HX2.out.res.frozen 2
      have g3:=HX2.out.res.frozen 3
      have g4:=HX2.out.res.frozen 4
      have g5:=HX2.out.res.frozen 5
      go_wp2_with fail
      obtain ⟨A9,c9,e9,fin⟩:=HX2.out.fin
      obtain ⟨hb,hat,hbl⟩:=fin _ rfl
      rw [HMS.out] at hat
      have hV:VisE s r w (.returned (.agg #[.string ⟨#[]⟩,.int .i64 0,.int .i64 s.day,.slice Av m cv,.slice none 0 0,.slice none 0 0])) _:=⟨Av,m,cv,by unfold visS; simp only [k0,k1,k2]; rfl,hat,hbl⟩
      refine bodyPost_ret (v:=.agg #[.string ⟨#[]⟩,.int .i64 0,.int .i64 s.day,.slice Av m cv,.slice none 0 0,.slice none 0 0]) ?_ rfl hV
      simp [results,Tryz.results13,go_sem,(hb.cell 0).trans (show _=some (Value.string ⟨#[]⟩) from rfl),(hb.cell 1).trans (show _=some (Value.int .i64 0) from rfl),(hb.cell 2).trans (show _=some (Value.int .i64 s.day) from rfl),(hb.cell 3).trans (show _=some (Value.slice Av m cv) from rfl),(hb.cell 4).trans (show _=some (Value.slice none 0 0) from rfl),(hb.cell 5).trans (show _=some (Value.slice none 0 0) from rfl)]
    ·have s1:=(HW1.out.sbx.cell 1).trans (show _=some (Value.int .i64 s.dep) from rfl)
     have o1:=(HW1.out.out.cell 1).trans (show _=some (Value.int .i64 0) from rfl)
     have f1:=HW1.out.out.frozen 1
     have HX1:=Lib.hid (HW1.out.set (x':=⟨#[]⟩) (d':=s.dep) (y':=0) 1 (.int .i64 s.dep) (HW1.out.out.set_ 1 _))
     go_wp2_with fail
     clear HW1 s1 o1 f1
     refine (HX1.out.sees HL.out dayB).mono ?_
     rintro e w12 ⟨rfl,hq2,hv2⟩
     have HW2:=Lib.hid hv2
     clear hq2 hv2 HX1
     cases k2:seesS s.shw r dayB
     ·go_upto_region 15 with fail
      have c0:=(HW2.out.out.cell 0).trans (show _=some (Value.string ⟨#[]⟩) from rfl)
      have c1:=(HW2.out.out.cell 1).trans (show _=some (Value.int .i64 s.dep) from rfl)
      have c2:=(HW2.out.out.cell 2).trans (show _=some (Value.int .i64 0) from rfl)
      have c3:=(HW2.out.out.cell 3).trans (show _=some (Value.slice Av m cv) from rfl)
      have c4:=(HW2.out.out.cell 4).trans (show _=some (Value.slice none 0 0) from rfl)
      have c5:=(HW2.out.out.cell 5).trans (show _=some (Value.slice none 0 0) from rfl)
      have r0:=(HW2.out.res.cell 0).trans (show _=some (Value.string ⟨#[]⟩) from rfl)
      have r1:=(HW2.out.res.cell 1).trans (show _=some (Value.int .i64 0) from rfl)
      have r2:=(HW2.out.res.cell 2).trans (show _=some (Value.int .i64 0) from rfl)
      have r3:=(HW2.out.res.cell 3).trans (show _=some (Value.slice none 0 0) from rfl)
      have r4:=(HW2.out.res.cell 4).trans (show _=some (Value.slice none 0 0) from rfl)
      have r5:=(HW2.out.res.cell 5).trans (show _=some (Value.slice none 0 0) from rfl)
      have g0:=HW2.out.res.frozen 0
      have g1:=HW2.out.res.frozen 1
      have g2:=HW2.out.res.frozen 2
      have g3:=HW2.out.res.frozen 3
      have g4:=HW2.out.res.frozen 4
      have g5:=HW2.out.res.frozen 5
      go_wp2_with fail
      obtain ⟨A9,c9,e9,fin⟩:=HW2.out.fin
      obtain ⟨hb,hat,hbl⟩:=fin _ rfl
      rw [HMS.out] at hat
      have hV:VisE s r w (.returned (.agg #[.string ⟨#[]⟩,.int .i64 s.dep,.int .i64 0,.slice Av m cv,.slice none 0 0,.slice none 0 0])) _:=⟨Av,m,cv,by unfold visS; simp only [k0,k1,k2]; rfl,hat,hbl⟩
      refine bodyPost_ret (v:=.agg #[.string ⟨#[]⟩,.int .i64 s.dep,.int .i64 0,.slice Av m cv,.slice none 0 0,.slice none 0 0]) ?_ rfl hV
      simp [results,Tryz.results13,go_sem,(hb.cell 0).trans (show _=some (Value.string ⟨#[]⟩) from rfl),(hb.cell 1).trans (show _=some (Value.int .i64 s.dep) from rfl),(hb.cell 2).trans (show _=some (Value.int .i64 0) from rfl),(hb.cell 3).trans (show _=some (Value.slice Av m cv) from rfl),(hb.cell 4).trans (show _=some (Value.slice none 0 0) from rfl),(hb.cell 5).trans (show _=some (Value.slice none 0 0) from rfl)]
     ·have s2:=(HW2.out.sbx.cell 2).trans (show _=some (Value.int .i64 s.day) from rfl)
      have o2:=(HW2.out.out.cell 2).trans (show _=some (Value.int .i64 0) from rfl)
      have f2:=HW2.out.out.frozen 2
      have HX2:=Lib.hid (HW2.out.set (x':=⟨#[]⟩) (d':=s.dep) (y':=s.day) 2 (.int .i64 s.day) (HW2.out.out.set_ 2 _))
      go_upto_region 15 with fail
      clear HW2 s2 o2 f2
      have c0:=(HX2.out.out.cell 0).trans (show _=some (Value.string ⟨#[]⟩) from rfl)
      have c1:=(HX2.out.out.cell 1).trans (show _=some (Value.int .i64 s.dep) from rfl)
      have c2:=(HX2.out.out.cell 2).trans (show _=some (Value.int .i64 s.day) from rfl)
      have c3:=(HX2.out.out.cell 3).trans (show _=some (Value.slice Av m cv) from rfl)
      have c4:=(HX2.out.out.cell 4).trans (show _=some (Value.slice none 0 0) from rfl)
      have c5:=(HX2.out.out.cell 5).trans (show _=some (Value.slice none 0 0) from rfl)
      have r0:=(HX2.out.res.cell 0).trans (show _=some (Value.string ⟨#[]⟩) from rfl)
      have r1:=(HX2.out.res.cell 1).trans (show _=some (Value.int .i64 0) from rfl)
      have r2:=(HX2.out.res.cell 2).trans (show _=some (Value.int .i64 0) from rfl)
      have r3:=(HX2.out.res.cell 3).trans (show _=some (Value.slice none 0 0) from rfl)
      have r4:=(HX2.out.res.cell 4).trans (show _=some (Value.slice none 0 0) from rfl)
      have r5:=(HX2.out.res.cell 5).trans (show _=some (Value.slice none 0 0) from rfl)
      have g0:=HX2.out.res.frozen 0
      have g1:=HX2.out.res.frozen 1
      have g2:=HX2.out.res.frozen 2
      have g3:=HX2.out.res.frozen 3
      have g4:=HX2.out.res.frozen 4
      have g5:=HX2.out.res.frozen 5
      go_wp2_with fail
      obtain ⟨A9,c9,e9,fin⟩:=HX2.out.fin
      obtain ⟨hb,hat,hbl⟩:=fin _ rfl
      rw [HMS.out] at hat
      have hV:VisE s r w (.returned (.agg #[.string ⟨#[]⟩,.int .i64 s.dep,.int .i64 s.day,.slice Av m cv,.slice none 0 0,.slice none 0 0])) _:=⟨Av,m,cv,by unfold visS; simp only [k0,k1,k2]; rfl,hat,hbl⟩
      refine bodyPost_ret (v:=.agg #[.string ⟨#[]⟩,.int .i64 s.dep,.int .i64 s.day,.slice Av m cv,.slice none 0 0,.slice none 0 0]) ?_ rfl hV
      simp [results,Tryz.results13,go_sem,(hb.cell 0).trans (show _=some (Value.string ⟨#[]⟩) from rfl),(hb.cell 1).trans (show _=some (Value.int .i64 s.dep) from rfl),(hb.cell 2).trans (show _=some (Value.int .i64 s.day) from rfl),(hb.cell 3).trans (show _=some (Value.slice Av m cv) from rfl),(hb.cell 4).trans (show _=some (Value.slice none 0 0) from rfl),(hb.cell 5).trans (show _=some (Value.slice none 0 0) from rfl)]
   ·have s0:=(HW0.out.sbx.cell 0).trans (show _=some (Value.string s.resp) from rfl)
    have o0:=(HW0.out.out.cell 0).trans (show _=some (Value.string ⟨#[]⟩) from rfl)
    have f0:=HW0.out.out.frozen 0
    have HX0:=Lib.hid (HW0.out.set (x':=s.resp) (d':=0) (y':=0) 0 (.string s.resp) (HW0.out.out.set_ 0 _))
    go_wp2_with fail
    clear HW0 s0 o0 f0
    refine (HX0.out.sees HL.out deptB).mono ?_
    rintro e w11 ⟨rfl,hq1,hv1⟩
    have HW1:=Lib.hid hv1
    clear hq1 hv1 HX0
    cases k1:seesS s.shw r deptB
    ·go_wp2_with fail
     refine (HW1.out.sees HL.out dayB).mono ?_
     rintro e w12 ⟨rfl,hq2,hv2⟩
     have HW2:=Lib.hid hv2
     clear hq2 hv2 HW1
     cases k2:seesS s.shw r dayB
     ·go_upto_region 15 with fail
      have c0:=(HW2.out.out.cell 0).trans (show _=some (Value.string s.resp) from rfl)
      have c1:=(HW2.out.out.cell 1).trans (show _=some (Value.int .i64 0) from rfl)
      have c2:=(HW2.out.out.cell 2).trans (show _=some (Value.int .i64 0) from rfl)
      have c3:=(HW2.out.out.cell 3).trans (show _=some (Value.slice Av m cv) from rfl)
      have c4:=(HW2.out.out.cell 4).trans (show _=some (Value.slice none 0 0) from rfl)
      have c5:=(HW2.out.out.cell 5).trans (show _=some (Value.slice none 0 0) from rfl)
      have r0:=(HW2.out.res.cell 0).trans (show _=some (Value.string ⟨#[]⟩) from rfl)
      have r1:=(HW2.out.res.cell 1).trans (show _=some (Value.int .i64 0) from rfl)
      have r2:=(HW2.out.res.cell 2).trans (show _=some (Value.int .i64 0) from rfl)
      have r3:=(HW2.out.res.cell 3).trans (show _=some (Value.slice none 0 0) from rfl)
      have r4:=(HW2.out.res.cell 4).trans (show _=some (Value.slice none 0 0) from rfl)
      have r5:=(HW2.out.res.cell 5).trans (show _=some (Value.slice none 0 0) from rfl)
      have g0:=HW2.out.res.frozen 0
      have g1:=HW2.out.res.frozen 1
      have g2:=HW2.out.res.frozen 2
      have g3:=HW2.out.res.frozen 3
      have g4:=HW2.out.res.frozen 4
      have g5:=HW2.out.res.frozen 5
      go_wp2_with fail
      obtain ⟨A9,c9,e9,fin⟩:=HW2.out.fin
      obtain ⟨hb,hat,hbl⟩:=fin _ rfl
      rw [HMS.out] at hat
      have hV:VisE s r w (.returned (.agg #[.string s.resp,.int .i64 0,.int .i64 0,.slice Av m cv,.slice none 0 0,.slice none 0 0])) _:=⟨Av,m,cv,by unfold visS; simp only [k0,k1,k2]; rfl,hat,hbl⟩
      refine bodyPost_ret (v:=.agg #[.string s.resp,.int .i64 0,.int .i64 0,.slice Av m cv,.slice none 0 0,.slice none 0 0]) ?_ rfl hV
      simp [results,Tryz.results13,go_sem,(hb.cell 0).trans (show _=some (Value.string s.resp) from rfl),(hb.cell 1).trans (show _=some (Value.int .i64 0) from rfl),(hb.cell 2).trans (show _=some (Value.int .i64 0) from rfl),(hb.cell 3).trans (show _=some (Value.slice Av m cv) from rfl),(hb.cell 4).trans (show _=some (Value.slice none 0 0) from rfl),(hb.cell 5).trans (show _=some (Value.slice none 0 0) from rfl)]
     ·have s2:=(HW2.out.sbx.cell 2).trans (show _=some (Value.int .i64 s.day) from rfl)
      have o2:=(HW2.out.out.cell 2).trans (show _=some (Value.int .i64 0) from rfl)
      have f2:=HW2.out.out.frozen 2
      have HX2:=Lib.hid (HW2.out.set (x':=s.resp) (d':=0) (y':=s.day) 2 (.int .i64 s.day) (HW2.out.out.set_ 2 _))
      go_upto_region 15 with fail
      clear HW2 s2 o2 f2
      have c0:=(HX2.out.out.cell 0).trans (show _=some (Value.string s.resp) from rfl)
      have c1:=(HX2.out.out.cell 1).trans (show _=some (Value.int .i64 0) from rfl)
      have c2:=(HX2.out.out.cell 2).trans (show _=some (Value.int .i64 s.day) from rfl)
      have c3:=(HX2.out.out.cell 3).trans (show _=some (Value.slice Av m cv) from rfl)
      have c4:=(HX2.out.out.cell 4).trans (show _=some (Value.slice none 0 0) from rfl)
      have c5:=(HX2.out.out.cell 5).trans (show _=some (Value.slice none 0 0) from rfl)
      have r0:=(HX2.out.res.cell 0).trans (show _=some (Value.string ⟨#[]⟩) from rfl)
      have r1:=(HX2.out.res.cell 1).trans (show _=some (Value.int .i64 0) from rfl)
      have r2:=(HX2.out.res.cell 2).trans (show _=some (Value.int .i64 0) from rfl)
      have r3:=(HX2.out.res.cell 3).trans (show _=some (Value.slice none 0 0) from rfl)
      have r4:=(HX2.out.res.cell 4).trans (show _=some (Value.slice none 0 0) from rfl)
      have r5:=(HX2.out.res.cell 5).trans (show _=some (Value.slice none 0 0) from rfl)
      have g0:=HX2.out.res.frozen 0
      have g1:=HX2.out.res.frozen 1
      have g2:=HX2.out.res.frozen 2
      have g3:=HX2.out.res.frozen 3
      have g4:=HX2.out.res.frozen 4
      have g5:=HX2.out.res.frozen 5
      go_wp2_with fail
      obtain ⟨A9,c9,e9,fin⟩:=HX2.out.fin
      obtain ⟨hb,hat,hbl⟩:=fin _ rfl
      rw [HMS.out] at hat
      have hV:VisE s r w (.returned (.agg #[.string s.resp,.int .i64 0,.int .i64 s.day,.slice Av m cv,.slice none 0 0,.slice none 0 0])) _:=⟨Av,m,cv,by unfold visS; simp only [k0,k1,k2]; rfl,hat,hbl⟩
      refine bodyPost_ret (v:=.agg #[.string s.resp,.int .i64 0,.int .i64 s.day,.slice Av m cv,.slice none 0 0,.slice none 0 0]) ?_ rfl hV
      simp [results,Tryz.results13,go_sem,(hb.cell 0).trans (show _=some (Value.string s.resp) from rfl),(hb.cell 1).trans (show _=some (Value.int .i64 0) from rfl),(hb.cell 2).trans (show _=some (Value.int .i64 s.day) from rfl),(hb.cell 3).trans (show _=some (Value.slice Av m cv) from rfl),(hb.cell 4).trans (show _=some (Value.slice none 0 0) from rfl),(hb.cell 5).trans (show _=some (Value.slice none 0 0) from rfl)]
    ·have s1:=(HW1.out.sbx.cell 1).trans (show _=some (Value.int .i64 s.dep) from rfl)
     have o1:=(HW1.out.out.cell 1).trans (show _=some (Value.int .i64 0) from rfl)
     have f1:=HW1.out.out.frozen 1
     have HX1:=Lib.hid (HW1.out.set (x':=s.resp) (d':=s.dep) (y':=0) 1 (.int .i64 s.dep) (HW1.out.out.set_ 1 _))
     go_wp2_with fail
     clear HW1 s1 o1 f1
     refine (HX1.out.sees HL.out dayB).mono ?_
     rintro e w12 ⟨rfl,hq2,hv2⟩
     have HW2:=Lib.hid hv2
     clear hq2 hv2 HX1
     cases k2:seesS s.shw r dayB
     ·go_upto_region 15 with fail
      have c0:=(HW2.out.out.cell 0).trans (show _=some (Value.string s.resp) from rfl)
      have c1:=(HW2.out.out.cell 1).trans (show _=some (Value.int .i64 s.dep) from rfl)
      have c2:=(HW2.out.out.cell 2).trans (show _=some (Value.int .i64 0) from rfl)
      have c3:=(HW2.out.out.cell 3).trans (show _=some (Value.slice Av m cv) from rfl)
      have c4:=(HW2.out.out.cell 4).trans (show _=some (Value.slice none 0 0) from rfl)
      have c5:=(HW2.out.out.cell 5).trans (show _=some (Value.slice none 0 0) from rfl)
      have r0:=(HW2.out.res.cell 0).trans (show _=some (Value.string ⟨#[]⟩) from rfl)
      have r1:=(HW2.out.res.cell 1).trans (show _=some (Value.int .i64 0) from rfl)
      have r2:=(HW2.out.res.cell 2).trans (show _=some (Value.int .i64 0) from rfl)
      have r3:=(HW2.out.res.cell 3).trans (show _=some (Value.slice none 0 0) from rfl)
      have r4:=(HW2.out.res.cell 4).trans (show _=some (Value.slice none 0 0) from rfl)
      have r5:=(HW2.out.res.cell 5).trans (show _=some (Value.slice none 0 0) from rfl)
      have g0:=HW2.out.res.frozen 0
      have g1:=HW2.out.res.frozen 1
      have g2:=HW2.out.res.frozen 2
      have g3:=HW2.out.res.frozen 3
      have g4:=HW2.out.res.frozen 4
      have g5:=HW2.out.res.frozen 5
      go_wp2_with fail
      obtain ⟨A9,c9,e9,fin⟩:=HW2.out.fin
      obtain ⟨hb,hat,hbl⟩:=fin _ rfl
      rw [HMS.out] at hat
      have hV:VisE s r w (.returned (.agg #[.string s.resp,.int .i64 s.dep,.int .i64 0,.slice Av m cv,.slice none 0 0,.slice none 0 0])) _:=⟨Av,m,cv,by unfold visS; simp only [k0,k1,k2]; rfl,hat,hbl⟩
      refine bodyPost_ret (v:=.agg #[.string s.resp,.int .i64 s.dep,.int .i64 0,.slice Av m cv,.slice none 0 0,.slice none 0 0]) ?_ rfl hV
      simp [results,Tryz.results13,go_sem,(hb.cell 0).trans (show _=some (Value.string s.resp) from rfl),(hb.cell 1).trans (show _=some (Value.int .i64 s.dep) from rfl),(hb.cell 2).trans (show _=some (Value.int .i64 0) from rfl),(hb.cell 3).trans (show _=some (Value.slice Av m cv) from rfl),(hb.cell 4).trans (show _=some (Value.slice none 0 0) from rfl),(hb.cell 5).trans (show _=some (Value.slice none 0 0) from rfl)]
     ·have s2:=(HW2.out.sbx.cell 2).trans (show _=some (Value.int .i64 s.day) from rfl)
      have o2:=(HW2.out.out.cell 2).trans (show _=some (Value.int .i64 0) from rfl)
      have f2:=HW2.out.out.frozen 2
      have HX2:=Lib.hid (HW2.out.set (x':=s.resp) (d':=s.dep) (y':=s.day) 2 (.int .i64 s.day) (HW2.out.out.set_ 2 _))
      go_upto_region 15 with fail
      clear HW2 s2 o2 f2
      have c0:=(HX2.out.out.cell 0).trans (show _=some (Value.string s.resp) from rfl)
      have c1:=(HX2.out.out.cell 1).trans (show _=some (Value.int .i64 s.dep) from rfl)
      have c2:=(HX2.out.out.cell 2).trans (show _=some (Value.int .i64 s.day) from rfl)
      have c3:=(HX2.out.out.cell 3).trans (show _=some (Value.slice Av m cv) from rfl)
      have c4:=(HX2.out.out.cell 4).trans (show _=some (Value.slice none 0 0) from rfl)
      have c5:=(HX2.out.out.cell 5).trans (show _=some (Value.slice none 0 0) from rfl)
      have r0:=(HX2.out.res.cell 0).trans (show _=some (Value.string ⟨#[]⟩) from rfl)
      have r1:=(HX2.out.res.cell 1).trans (show _=some (Value.int .i64 0) from rfl)
      have r2:=(HX2.out.res.cell 2).trans (show _=some (Value.int .i64 0) from rfl)
      have r3:=(HX2.out.res.cell 3).trans (show _=some (Value.slice none 0 0) from rfl)
      have r4:=(HX2.out.res.cell 4).trans (show _=some (Value.slice none 0 0) from rfl)
      have r5:=(HX2.out.res.cell 5).trans (show _=some (Value.slice none 0 0) from rfl)
      have g0:=HX2.out.res.frozen 0
      have g1:=HX2.out.res.frozen 1
      have g2:=HX2.out.res.frozen 2
      have g3:=HX2.out.res.frozen 3
      have g4:=HX2.out.res.frozen 4
      have g5:=HX2.out.res.frozen 5
      go_wp2_with fail
      obtain ⟨A9,c9,e9,fin⟩:=HX2.out.fin
      obtain ⟨hb,hat,hbl⟩:=fin _ rfl
      rw [HMS.out] at hat
      have hV:VisE s r w (.returned (.agg #[.string s.resp,.int .i64 s.dep,.int .i64 s.day,.slice Av m cv,.slice none 0 0,.slice none 0 0])) _:=⟨Av,m,cv,by unfold visS; simp only [k0,k1,k2]; rfl,hat,hbl⟩
      refine bodyPost_ret (v:=.agg #[.string s.resp,.int .i64 s.dep,.int .i64 s.day,.slice Av m cv,.slice none 0 0,.slice none 0 0]) ?_ rfl hV
      simp [results,Tryz.results13,go_sem,(hb.cell 0).trans (show _=some (Value.string s.resp) from rfl),(hb.cell 1).trans (show _=some (Value.int .i64 s.dep) from rfl),(hb.cell 2).trans (show _=some (Value.int .i64 s.day) from rfl),(hb.cell 3).trans (show _=some (Value.slice Av m cv) from rfl),(hb.cell 4).trans (show _=some (Value.slice none 0 0) from rfl),(hb.cell 5).trans (show _=some (Value.slice none 0 0) from rfl)]
end Go.Proofs.YtgdngfdeeadlnaaGreatDoor

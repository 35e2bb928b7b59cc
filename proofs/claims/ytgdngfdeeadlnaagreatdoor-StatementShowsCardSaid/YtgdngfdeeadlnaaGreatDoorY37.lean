/- Contracts: what a role may see, by the reference. And more. -/
import Derived.Test.YtgdngfdeeadlnaaGreatDoorY36
import Derived.Test.YtgdngfdeeadlnaaGreatDoorY29
import Derived.Laws.OwnMore
import Derived.Maps.AppendAt
import Derived.Deep.Slices
set_option linter.unusedVariables false
set_option linter.unusedSimpArgs false
namespace Go.Proofs.YtgdngfdeeadlnaaGreatDoor
open Go.RowKit Num
theorem blk6 {W : World} {g : Nat} {t : TypeId} {a b c d e f : Value} (h : Blk W g t #[a,b,c,d,e,f]) : W.cell? ⟨g,0,none⟩ = some a ∧ W.cell? ⟨g,1,none⟩ = some b ∧ W.cell? ⟨g,2,none⟩ = some c ∧ W.cell? ⟨g,3,none⟩ = some d ∧ W.cell? ⟨g,4,none⟩ = some e ∧ W.cell? ⟨g,5,none⟩ = some f :=
 ⟨(h.cell 0).trans rfl,(h.cell 1).trans rfl,(h.cell 2).trans rfl,(h.cell 3).trans rfl,(h.cell 4).trans rfl,(h.cell 5).trans rfl⟩
theorem frz6 {W : World} {g : Nat} {t : TypeId} {cs : Array Value} (h : Blk W g t cs) : W.frozen? ⟨g,0,none⟩ = false ∧ W.frozen? ⟨g,1,none⟩ = false ∧ W.frozen? ⟨g,2,none⟩ = false ∧ W.frozen? ⟨g,3,none⟩ = false ∧ W.frozen? ⟨g,4,none⟩ = false ∧ W.frozen? ⟨g,5,none⟩ = false :=
 ⟨h.frozen 0,h.frozen 1,h.frozen 2,h.frozen 3,h.frozen 4,h.frozen 5⟩
theorem blkZ6 {W : World} {g : Nat} {t : TypeId} (h : Blk W g t stmZ) : Blk W g t #[.string ⟨#[]⟩,.int .i64 0,.int .i64 0,.slice none 0 0,.slice none 0 0,.slice none 0 0] := h
set_option maxRecDepth 100000 in
set_option maxHeartbeats 1000000 in
theorem r_shown (s : Stm) (f r : ByteArray) (va vc vs : Value) (w : World) (hv : ShwsAt w (· < w.heap.size) vs s.shw) (hl : s.shw.length ≤ 1000000) :
  Calls Tryz.prog 38 #[.agg #[.string s.resp,.int .i64 s.dep,.int .i64 s.day,va,vc,vs],.string f,.string r] w (BoolBel (seesS s.shw r f) w):=by
 obtain ⟨A,n,c,rfl,hn,hnc,hc⟩:=hv
 obtain ⟨rs,dp,dy,an,tm,T⟩:=s
 simp only at hn hl hc ⊢
 have hn1:n ≤ 1000000:=by omega
 have hb0:=below_al' w (.cells #[.string rs,.int .i64 dp,.int .i64 dy,va,vc,.slice A n c] 29)
 have HC:=Lib.hid hc
 have HN:=Lib.hid hn
 have HB:=Lib.hid hb0
 clear hc hn hl hb0
 go_enter Tryz.func38,Tryz.ntmps38
 go_wp2_with fail
 go_loopw [12] (fun v12 wr => ∃ k:Nat,k ≤ n ∧ v12=.int .i64 (k:Int) ∧ (∀ j,j < k → shwAt T j ≠ ⟨f,r⟩) ∧ Below w.heap.size w wr) (fun v12 _ => n - (intOf v12).toNat)
 case atStart => exact ⟨0,by omega,rfl,fun j hj => absurd hj (Nat.not_lt_zero _),HB.out⟩
 case round =>
  obtain ⟨k,hk,rfl,hne,hbr⟩:=hrel
  rename World => wr
  have HNE:=Lib.hid hne
  have HBR:=Lib.hid hbr
  clear hne hbr
  by_cases hlt:k < n
  ·obtain ⟨b,off,rfl,hS,hcc⟩:=HC.out (by omega)
   obtain ⟨x0,x1⟩:=hcc k hlt
   have hm:shwAt T k ∈ T:=shwAt_mem (by have:=HN.out; omega)
   obtain ⟨g,hg⟩:∃ g,shwAt T k=g:=⟨_,rfl⟩
   rw [hg] at x0 x1 hm
   obtain ⟨gf,gr⟩:=g
   have e0:=(HBR.out.cell (p:=⟨b,off+k*2,none⟩) hS).trans x0
   have e1:=(HBR.out.cell (p:=⟨b,off+k*2+1,none⟩) hS).trans x1
   have HG:=Lib.hid hg
   have HM:=Lib.hid hm
   have HB2:=Lib.hid (HBR.out.alloc HBR.out.size (.cells #[.string gf,.string gr] 73))
   have hp:=Blk.new wr 73 #[.string gf,.string gr]
   have d0:=(hp.cell 0).trans (show _=some (Value.string gf) from rfl)
   have d1:=(hp.cell 1).trans (show _=some (Value.string gr) from rfl)
   have zi:(k:Int) < (n:Int):=by omega
   have z0:(0:Int) ≤ (k:Int):=by omega
   clear hg hcc hm x0 x1 hp
   cases k0:(gf.toList == f.toList)
   ·have hs:(⟨gf,gr⟩:Shw) ≠ ⟨f,r⟩:=fun h => by injection h with h1 h2; rw [h1] at k0; simp at k0
    have HS:=Lib.hid hs
    clear hs
    go_wp2_with fail
    go_roundw
    case measure => simp [intOf]; omega
    case rel => exact ⟨k+1,by omega,by go_num,fun j hj => by
     rcases Nat.lt_or_ge j k with h | h
     ·exact HNE.out j h
     ·rw [show j=k by omega,HG.out]; exact HS.out,HB2.out⟩
   ·cases k1:(gr.toList == r.toList)
    ·have hs:(⟨gf,gr⟩:Shw) ≠ ⟨f,r⟩:=fun h => by injection h with h1 h2; rw [h2] at k1; simp at k1
     have HS:=Lib.hid hs
     clear hs
     go_wp2_with fail
     go_roundw
     case measure => simp [intOf]; omega
     case rel => exact ⟨k+1,by omega,by go_num,fun j hj => by
      rcases Nat.lt_or_ge j k with h | h
      ·exact HNE.out j h
      ·rw [show j=k by omega,HG.out]; exact HS.out,HB2.out⟩
    ·have hs:seesS T r f=true:=(sees_iff _ _ _).2 (by rw [bytes_of k0,bytes_of k1]; exact HM.out)
     have HS:=Lib.hid hs
     clear hs
     go_wp2_with fail
     go_ret
     exact ⟨by rw [HS.out]; rfl,HB2.out⟩
  ·have zi:¬ (k:Int) < (n:Int):=by omega
   have he:seesS T r f=false:=by
    cases h:seesS T r f with
    | false => rfl
    | true => exact absurd ((sees_iff _ _ _).1 h) (shwAt_none (fun q hq => HNE.out q (by have:=HN.out; omega)))
   have HE:=Lib.hid he
   clear he
   go_wp2_with fail
   go_ret
   exact ⟨by rw [HE.out]; rfl,HBR.out⟩
structure VSr (w W : World) (s : Stm) (r : ByteArray) (va vc vs : Value) (x : ByteArray) (d y : Int) (L : List Ans) (v' : Value) : Prop where
  old : Below w.heap.size w W
  sbx : Blk W w.heap.size 29 #[.string s.resp, .int .i64 s.dep, .int .i64 s.day, va, vc, vs]
  res : Blk W (w.heap.size + 1) 29 stmZ
  out : Blk W (w.heap.size + 2) 29 #[.string x, .int .i64 d, .int .i64 y, v', .slice none 0 0, .slice none 0 0]
  row : W.ownsRow (w.heap.size + 2) 50 3 v' L.length (ansC L)
  at_ : StmAt W (· < w.heap.size) va vc vs s
section
variable {w W W' : World} {s : Stm} {r : ByteArray} {va vc vs v' v2 : Value} {x x' : ByteArray} {d y d' y' : Int} {L : List Ans} {o : Obj}
theorem VSr.below (h : VSr w W s r va vc vs x d y L v') (hb : Below W.heap.size W W') : VSr w W' s r va vc vs x d y L v' := by
 have ho:=h.old.size
 have l1:=h.sbx.lt
 have l3:=h.res.lt
 have l4:=h.out.lt
 refine ⟨h.old.trans (hb.mono ho),h.sbx.below' hb l1,h.res.below' hb l3,h.out.below' hb l4,h.row.kept (only_of_below hb none) ?_,h.at_.keep fun q hq => hb.block q (by omega)⟩
 rcases hq:v'.ownBlock with _ | q
 ·exact .inl rfl
 ·exact .inr (by simp)
theorem VSr.alloc (h : VSr w W s r va vc vs x d y L v') (o : Obj) : VSr w (W.alloc o) s r va vc vs x d y L v' := h.below (below_al' W o)
theorem VSr.sees (h : VSr w W s r va vc vs x d y L v') (hl : s.shw.length ≤ 1000000) (f : ByteArray) : Calls Tryz.prog 38 #[.agg #[.string s.resp,.int .i64 s.dep,.int .i64 s.day,va,vc,vs],.string f,.string r] W fun e W' => e = .returned (.bool (seesS s.shw r f)) ∧ Below W.heap.size W W' ∧ VSr w W' s r va vc vs x d y L v' :=
 (r_shown s f r va vc vs W (h.at_.ss.mono fun b hb => Nat.lt_of_lt_of_le hb h.old.size) hl).mono fun e W' hh => ⟨hh.1,hh.2,h.below hh.2⟩
theorem VSr.set (h : VSr w W s r va vc vs x d y L v') (i : Nat) (v : Value) (hb : Blk (W.setCell ⟨w.heap.size + 2,i,none⟩ v) (w.heap.size + 2) 29 #[.string x',.int .i64 d',.int .i64 y',v',.slice none 0 0,.slice none 0 0]) : VSr w (W.setCell ⟨w.heap.size + 2,i,none⟩ v) s r va vc vs x' d' y' L v' := by
 have hset:W.grownBy (W.setCell ⟨w.heap.size+2,i,none⟩ v) (some (w.heap.size+2)):=grown_setCell W ⟨w.heap.size+2,i,none⟩ v
 have l4:=h.out.lt
 have kb:∀ q,q < w.heap.size+2 → (W.setCell ⟨w.heap.size+2,i,none⟩ v).heap[q]?=W.heap[q]?:=fun q hq => hset.block q (by omega) (fun e => by injection e; omega)
 exact ⟨⟨hset.os.trans h.old.os,hset.tape.trans h.old.tape,hset.output.trans h.old.output,Nat.le_trans h.old.size hset.size,fun q hq => (kb q (by omega)).trans (h.old.block q hq)⟩,
  (kb _ (by omega)).trans h.sbx,(kb _ (by omega)).trans h.res,hb,h.row.kept hset (.inr fun e => by have:=own_above h.row h.out (by decide) _ e; omega),h.at_.keep fun q hq => kb q (by omega)⟩
theorem VSr.push (h : VSr w W s r va vc vs x d y L v') {a : Ans} (hown : W'.ownsRow (w.heap.size + 2) 50 3 v2 (L.length + 1) (ansC L ++ [.string a.field,.string a.text,.int .i64 a.num])) (hg : (W.alloc o).grownBy W' v'.ownBlock) :
  VSr w (W'.setCell ⟨w.heap.size+2,3,none⟩ v2) s r va vc vs x d y (L ++ [a]) v2 ∧ W'.cell? ⟨w.heap.size+2,3,none⟩=some v' ∧ W'.frozen? ⟨w.heap.size+2,3,none⟩=false:=by
 have hva:=own_above h.row h.out (by decide)
 have l4:=h.out.lt
 have hsz:=hg.size
 simp only [World.size_alloc] at hsz
 have kl:∀ q,q ≤ w.heap.size+2 → W'.heap[q]?=W.heap[q]?:=fun q hq => (hg.block q (by simp; omega) (fun e => by have:=hva q e.symm; omega)).trans (Below.heap_alloc W o q (by omega))
 have hb:Blk W' (w.heap.size+2) 29 #[.string x,.int .i64 d,.int .i64 y,v',.slice none 0 0,.slice none 0 0]:=(kl _ (Nat.le_refl _)).trans h.out
 have hset:W'.grownBy (W'.setCell ⟨w.heap.size+2,3,none⟩ v2) (some (w.heap.size+2)):=grown_setCell W' ⟨w.heap.size+2,3,none⟩ v2
 have k3:∀ q,q < w.heap.size+2 → (W'.setCell ⟨w.heap.size+2,3,none⟩ v2).heap[q]?=W.heap[q]?:=fun q hq => (hset.block q (by omega) (fun e => by injection e; omega)).trans (kl q (by omega))
 refine ⟨⟨⟨hset.os.trans (hg.os.trans h.old.os),hset.tape.trans (hg.tape.trans h.old.tape),hset.output.trans (hg.output.trans h.old.output),by have:=h.old.size; have:=hset.size; omega,fun q hq => (k3 q (by omega)).trans (h.old.block q hq)⟩,
  (k3 _ (by omega)).trans h.sbx,(k3 _ (by omega)).trans h.res,hb.set_ 3 v2,?_,h.at_.keep fun q hq => k3 q (by omega)⟩,(hb.cell 3).trans rfl,hb.frozen 3⟩
 rw [List.length_append,ansC_snoc]
 exact hown.kept hset (.inr fun e => by have:=own_above hown hb (by decide) _ e; omega)
theorem VSr.fin (h : VSr w W s r va vc vs x d y L v') : ∃ Aa ca,v' = .slice Aa L.length ca ∧
  ∀ W2,W2=(((((W.setCell ⟨w.heap.size+1,0,none⟩ (.string x)).setCell ⟨w.heap.size+1,1,none⟩ (.int .i64 d)).setCell ⟨w.heap.size+1,2,none⟩ (.int .i64 y)).setCell ⟨w.heap.size+1,3,none⟩ v').setCell ⟨w.heap.size+1,4,none⟩ (.slice none 0 0)).setCell ⟨w.heap.size+1,5,none⟩ (.slice none 0 0) →
   Blk W2 (w.heap.size+1) 29 #[.string x,.int .i64 d,.int .i64 y,v',.slice none 0 0,.slice none 0 0] ∧ AnssAt W2 (fun b => w.heap.size ≤ b ∧ b < W2.heap.size) v' L ∧ Below w.heap.size w W2:=by
 obtain ⟨Aa,ca,rfl⟩:=own_slice h.row
 refine ⟨Aa,ca,rfl,fun W2 hW2 => ?_⟩
 have hc:Chg W W2 (fun q => q=w.heap.size+1):=by
  rw [hW2]
  exact Chg.setCell (Chg.setCell (Chg.setCell (Chg.setCell (Chg.setCell (Chg.setCell (Chg.refl W (fun q => q=w.heap.size+1)) ⟨w.heap.size+1,0,none⟩ (fun _ => rfl) _) ⟨w.heap.size+1,1,none⟩ (fun _ => rfl) _) ⟨w.heap.size+1,2,none⟩ (fun _ => rfl) _) ⟨w.heap.size+1,3,none⟩ (fun _ => rfl) _) ⟨w.heap.size+1,4,none⟩ (fun _ => rfl) _) ⟨w.heap.size+1,5,none⟩ (fun _ => rfl) _
 have hb:Blk W2 (w.heap.size+1) 29 #[.string x,.int .i64 d,.int .i64 y,.slice Aa L.length ca,.slice none 0 0,.slice none 0 0]:=by
  rw [hW2]
  exact (((((h.res.set_ 0 _).set_ 1 _).set_ 2 _).set_ 3 _).set_ 4 _).set_ 5 _
 have hs:=hc.size
 have ho:=h.old.size
 refine ⟨hb,((AnssAt.of_own h.row).keep fun q hq => hc.block q hq.2 (by omega)).mono fun q hq => ⟨by omega,by omega⟩,⟨hc.os.trans h.old.os,hc.tape.trans h.old.tape,hc.output.trans h.old.output,Nat.le_trans ho hs,fun q hq => (hc.block q (Nat.lt_of_lt_of_le hq ho) (by omega)).trans (h.old.block q hq)⟩⟩
end
set_option maxRecDepth 100000 in
set_option maxHeartbeats 4000000 in
theorem r_Visible (s : Stm) (r : ByteArray) (va vc vs : Value) (w : World) (h : StmAt w (· < w.heap.size) va vc vs s) (hok : StmOk s) :
  Calls Tryz.prog 14 #[.agg #[.string s.resp,.int .i64 s.dep,.int .i64 s.day,va,vc,vs],.string r] w (VisE s r w):=by
 obtain ⟨i0,hi,hz0,hz1,hz2⟩:=info_parts infoAn
 obtain ⟨Aa,n,ca,rfl,hn,hnc,hA⟩:=id h.aa
 obtain ⟨Ac,nc,cc,rfl,-⟩:=id h.cc
 obtain ⟨As,ns,cs,rfl,-⟩:=id h.ss
 have hn1:n ≤ 1000000:=by have:=hok.an; omega
 have hl:=hok.sn
 have h0:∀ W,W=(((w.alloc (.cells #[.string s.resp,.int .i64 s.dep,.int .i64 s.day,.slice Aa n ca,.slice Ac nc cc,.slice As ns cs] 29)).alloc (.cells stmZ 29)).alloc (.cells stmZ 29)) → VSr w W s r (.slice Aa n ca) (.slice Ac nc cc) (.slice As ns cs) ⟨#[]⟩ 0 0 [] (.slice none 0 0):=fun W hW => by
  subst hW
  have b0:=Blk.new w 29 #[.string s.resp,.int .i64 s.dep,.int .i64 s.day,.slice Aa n ca,.slice Ac nc cc,.slice As ns cs]
  have b2:=Blk.new (w.alloc (.cells #[.string s.resp,.int .i64 s.dep,.int .i64 s.day,.slice Aa n ca,.slice Ac nc cc,.slice As ns cs] 29)) 29 stmZ
  have b3:=Blk.new ((w.alloc (.cells #[.string s.resp,.int .i64 s.dep,.int .i64 s.day,.slice Aa n ca,.slice Ac nc cc,.slice As ns cs] 29)).alloc (.cells stmZ 29)) 29 stmZ
  simp only [World.size_alloc] at b2 b3
  have hb:Below w.heap.size w (((w.alloc (.cells #[.string s.resp,.int .i64 s.dep,.int .i64 s.day,.slice Aa n ca,.slice Ac nc cc,.slice As ns cs] 29)).alloc (.cells stmZ 29)).alloc (.cells stmZ 29)):=(((Below.refl _ w).alloc (Nat.le_refl _) _).alloc (by simp) _).alloc (by simp; omega) _
  exact ⟨hb,(b0.alloc _).alloc _,b2.alloc _,b3,World.ownsRow_nil _ _ _ _,h.keep fun b hB => hb.block b hB⟩
 have H0:=Lib.hid h0
 have HA:=Lib.hid hA
 have HN:=Lib.hid hn
 have HL:=Lib.hid hl
 clear h0 hA hn hl h hok
 go_enter Tryz.func14,Tryz.ntmps14
 go_wp2_with fail
 try rw [show w.heap.size+1+1=w.heap.size+2 from rfl]
 go_loopw [11] (fun v13 wr => ∃ (k:Nat) (v':Value),k ≤ n ∧ v13=.int .i64 (k:Int) ∧ VSr w wr s r (.slice Aa n ca) (.slice Ac nc cc) (.slice As ns cs) ⟨#[]⟩ 0 0 (visA s.shw r (s.ans.take k)) v') (fun v13 _ => n - (intOf v13).toNat)
 case atStart => exact ⟨0,_,by omega,rfl,H0.out _ rfl⟩
 case round =>
  obtain ⟨k,v',hk,rfl,hv⟩:=hrel
  rename World => wr
  obtain ⟨M,hM⟩:∃ M,visA s.shw r (s.ans.take k)=M:=⟨_,rfl⟩
  rw [hM] at hv
  obtain ⟨Av,cv,rfl⟩:=own_slice hv.row
  have hMl:M.length ≤ k:=by rw [← hM]; exact Nat.le_trans (visA_len _ _ _) (List.length_take_le _ _)
  have l4:=hv.out.lt
  have HV:=Lib.hid hv
  have HM:=Lib.hid hM
  clear hv hM
  by_cases hlt:k < n
  ·obtain ⟨b,off,rfl,hS,hc⟩:=HA.out (by omega)
   obtain ⟨x0,x1,x2⟩:=hc k hlt
   have hkl:k < s.ans.length:=by have:=HN.out; omega
   have htk:=visA_take (L:=s.shw) (r:=r) hkl
   rw [HM.out] at htk
   obtain ⟨a,ha⟩:∃ a,ansAt s.ans k=a:=⟨_,rfl⟩
   rw [ha] at x0 x1 x2 htk
   obtain ⟨fl,tx,nu⟩:=a
   have e0:wr.cell? ⟨b,off+k*3,none⟩=_:=(HV.out.old.cell (p:=⟨b,off+k*3,none⟩) hS).trans x0
   have e1:wr.cell? ⟨b,off+k*3+1,none⟩=_:=(HV.out.old.cell (p:=⟨b,off+k*3+1,none⟩) hS).trans x1
   have e2:wr.cell? ⟨b,off+k*3+2,none⟩=_:=(HV.out.old.cell (p:=⟨b,off+k*3+2,none⟩) hS).trans x2
   have zi:(k:Int) < (n:Int):=by omega
   have z0:(0:Int) ≤ (k:Int):=by omega
   have hva:=Lib.hid (HV.out.alloc (.cells #[.string fl,.string tx,.int .i64 nu] 50))
   have SEE:=Lib.hid (hva.out.sees HL.out fl)
   obtain ⟨y0,y1,y2,y3,y4,y5⟩:=blk6 hva.out.sbx
   have hab:=Blk.new wr 50 #[.string fl,.string tx,.int .i64 nu]
   have HAB:=Lib.hid hab
   clear x0 x1 x2 hc ha hab
   cases hs:seesS s.shw r fl
   ·have HT:=Lib.hid (htk.trans (by rw [show seesS s.shw r (⟨fl,tx,nu⟩:Ans).field=false from hs]; exact List.append_nil M):visA s.shw r (s.ans.take (k+1))=M)
    clear htk
    go_wp2_with (go_at_call 38; refine (SEE.out).mono ?_; rintro e w1 ⟨rfl,-,hv1⟩; rw [hs]; have HV1:=Lib.hid hv1; clear hv1)
    go_roundw
    case measure => simp [intOf]; omega
    case rel => exact ⟨k+1,_,by omega,by go_num,by rw [HT.out]; exact HV1.out⟩
   ·have HT:=Lib.hid (htk.trans (by rw [show seesS s.shw r (⟨fl,tx,nu⟩:Ans).field=true from hs]; rfl):visA s.shw r (s.ans.take (k+1))=M ++ [⟨fl,tx,nu⟩])
    clear htk
    go_wp2_with fail
    refine (SEE.out).mono ?_
    rintro e w1 ⟨rfl,hb1,hv1⟩
    rw [hs]
    clear y0 y1 y2 y3 y4 y5
    have hsz1:=hb1.size
    simp only [World.size_alloc] at hsz1
    have bx:=HAB.out.below' hb1 (by simp)
    have d0:=(bx.cell 0).trans (show _=some (Value.string fl) from rfl)
    have d1:=(bx.cell 1).trans (show _=some (Value.string tx) from rfl)
    have d2:=(bx.cell 2).trans (show _=some (Value.int .i64 nu) from rfl)
    have c3:=(hv1.out.cell 3).trans (show _=some (Value.slice Av M.length cv) from rfl)
    have l5:=hv1.out.lt
    have O1:=Lib.hid hv1.row
    have HV1:=Lib.hid hv1
    have nw:=World.news_of_block (cs:=#[.string fl,.string tx,.int .i64 nu]) (t:=50) (fr:=(0,0)) (heap_alloc_new w1 (.cells #[.string fl,.string tx,.int .i64 nu] 50))
    have NW:=Lib.hid nw
    clear nw hv1 bx hb1
    go_wp2_with (at_builtin; refine wpList_append_own_at _ rfl _ _ 23 rfl (w.heap.size+2) 50 i0 (.agg #[.string ⟨#[]⟩,.string ⟨#[]⟩,.int .i64 0]) 3 40 Tryz.underlying23 hi hz0 hz1 hz2 rfl (by decide) (.slice Av M.length cv) M.length (ansC M) rfl (O1.out.alloc _) ⟨w1.heap.size,0,none⟩ 1 1 [.string fl,.string tx,.int .i64 nu] rfl rfl NW.out (by intro u hu; simp at hu; rcases hu with rfl | rfl | rfl <;> rfl) (by unfold maxLen; omega) (by omega) (by rw [World.size_alloc]; omega) ?_)
    intro v2 w3 hown2 hgrow2 _ hat2
    obtain ⟨A2,cc2,hv2⟩:=own_slice hown2
    subst hv2
    have MO:=Lib.hid (HV1.out.push (a:=⟨fl,tx,nu⟩) hown2 hgrow2)
    have mc:=MO.out.2.1
    have mf:=MO.out.2.2
    clear hown2 hgrow2 hat2 O1 HV1 c3 d0 d1 d2
    go_wp2_with fail
    go_roundw
    case measure => simp [intOf]; omega
    case rel => exact ⟨k+1,_,by omega,by go_num,by rw [HT.out]; exact MO.out.1⟩
  ·have zi:¬ (k:Int) < (n:Int):=by omega
   have hMs:M=visA s.shw r s.ans:=by rw [← HM.out,List.take_of_length_le (by have:=HN.out; omega)]
   obtain ⟨m,hm⟩:∃ m,M.length=m:=⟨_,rfl⟩
   rw [hm] at HV
   have HMS:=Lib.hid hMs
   have HMM:=Lib.hid hm
   clear hMs HM hMl hm
   obtain ⟨y0,y1,y2,y3,y4,y5⟩:=blk6 HV.out.sbx
   go_wp2_with fail
   clear y0 y1 y2 y3 y4 y5
   refine (HV.out.sees HL.out respB).mono ?_
   rintro e w10 ⟨rfl,hq0,hv0⟩
   have HW0:=Lib.hid hv0
   clear hq0 hv0 HV
   cases k0:seesS s.shw r respB
   ·skip
    obtain ⟨y0,y1,y2,y3,y4,y5⟩:=blk6 HW0.out.sbx
    go_wp2_with fail
    clear y0 y1 y2 y3 y4 y5
    refine (HW0.out.sees HL.out deptB).mono ?_
    rintro e w11 ⟨rfl,hq1,hv1⟩
    have HW1:=Lib.hid hv1
    clear hq1 hv1 HW0
    cases k1:seesS s.shw r deptB
    ·skip
     obtain ⟨y0,y1,y2,y3,y4,y5⟩:=blk6 HW1.out.sbx
     go_wp2_with fail
     clear y0 y1 y2 y3 y4 y5
     refine (HW1.out.sees HL.out dayB).mono ?_
     rintro e w12 ⟨rfl,hq2,hv2⟩
     have HW2:=Lib.hid hv2
     clear hq2 hv2 HW1
     cases k2:seesS s.shw r dayB
     ·go_upto_region 14 with fail
      obtain ⟨c0,c1,c2,c3,c4,c5⟩:=blk6 HW2.out.out
      obtain ⟨r0,r1,r2,r3,r4,r5⟩:=blk6 (blkZ6 HW2.out.res)
      obtain ⟨g0,g1,g2,g3,g4,g5⟩:=frz6 HW2.out.res
      go_wp2_with fail
      obtain ⟨A9,c9,e9,fin⟩:=HW2.out.fin
      obtain ⟨hb,hat,hbl⟩:=fin _ rfl
      rw [HMS.out] at hat
      have hV:VisE s r w (.returned (.agg #[.string ⟨#[]⟩,.int .i64 0,.int .i64 0,.slice Av m cv,.slice none 0 0,.slice none 0 0])) _:=⟨Av,m,cv,by unfold visS; simp only [k0,k1,k2]; rfl,hat,hbl⟩
      refine bodyPost_ret (v:=.agg #[.string ⟨#[]⟩,.int .i64 0,.int .i64 0,.slice Av m cv,.slice none 0 0,.slice none 0 0]) ?_ rfl hV
      obtain ⟨m0,m1,m2,m3,m4,m5⟩:=blk6 hb
      simp [results,Tryz.results14,go_sem,m0,m1,m2,m3,m4,m5]
     ·have s2:=(HW2.out.sbx.cell 2).trans (show _=some (Value.int .i64 s.day) from rfl)
      have o2:=(HW2.out.out.cell 2).trans (show _=some (Value.int .i64 0) from rfl)
      have f2:=HW2.out.out.frozen 2
      have HX2:=Lib.hid (HW2.out.set (x':=⟨#[]⟩) (d':=0) (y':=s.day) 2 (.int .i64 s.day) (HW2.out.out.set_ 2 _))
      go_upto_region 14 with fail
      clear HW2 s2 o2 f2
      obtain ⟨c0,c1,c2,c3,c4,c5⟩:=blk6 HX2.out.out
      obtain ⟨r0,r1,r2,r3,r4,r5⟩:=blk6 (blkZ6 HX2.out.res)
      obtain ⟨g0,g1,g2,g3,g4,g5⟩:=frz6 HX2.out.res
      go_wp2_with fail
      obtain ⟨A9,c9,e9,fin⟩:=HX2.out.fin
      obtain ⟨hb,hat,hbl⟩:=fin _ rfl
      rw [HMS.out] at hat
      have hV:VisE s r w (.returned (.agg #[.string ⟨#[]⟩,.int .i64 0,.int .i64 s.day,.slice Av m cv,.slice none 0 0,.slice none 0 0])) _:=⟨Av,m,cv,by unfold visS; simp only [k0,k1,k2]; rfl,hat,hbl⟩
      refine bodyPost_ret (v:=.agg #[.string ⟨#[]⟩,.int .i64 0,.int .i64 s.day,.slice Av m cv,.slice none 0 0,.slice none 0 0]) ?_ rfl hV
      obtain ⟨m0,m1,m2,m3,m4,m5⟩:=blk6 hb
      simp [results,Tryz.results14,go_sem,m0,m1,m2,m3,m4,m5]
    ·have s1:=(HW1.out.sbx.cell 1).trans (show _=some (Value.int .i64 s.dep) from rfl)
     have o1:=(HW1.out.out.cell 1).trans (show _=some (Value.int .i64 0) from rfl)
     have f1:=HW1.out.out.frozen 1
     have HX1:=Lib.hid (HW1.out.set (x':=⟨#[]⟩) (d':=s.dep) (y':=0) 1 (.int .i64 s.dep) (HW1.out.out.set_ 1 _))
     obtain ⟨y0,y1,y2,y3,y4,y5⟩:=blk6 HX1.out.sbx
     go_wp2_with fail
     clear y0 y1 y2 y3 y4 y5 HW1 s1 o1 f1
     refine (HX1.out.sees HL.out dayB).mono ?_
     rintro e w12 ⟨rfl,hq2,hv2⟩
     have HW2:=Lib.hid hv2
     clear hq2 hv2 HX1
     cases k2:seesS s.shw r dayB
     ·go_upto_region 14 with fail
      obtain ⟨c0,c1,c2,c3,c4,c5⟩:=blk6 HW2.out.out
      obtain ⟨r0,r1,r2,r3,r4,r5⟩:=blk6 (blkZ6 HW2.out.res)
      obtain ⟨g0,g1,g2,g3,g4,g5⟩:=frz6 HW2.out.res
      go_wp2_with fail
      obtain ⟨A9,c9,e9,fin⟩:=HW2.out.fin
      obtain ⟨hb,hat,hbl⟩:=fin _ rfl
      rw [HMS.out] at hat
      have hV:VisE s r w (.returned (.agg #[.string ⟨#[]⟩,.int .i64 s.dep,.int .i64 0,.slice Av m cv,.slice none 0 0,.slice none 0 0])) _:=⟨Av,m,cv,by unfold visS; simp only [k0,k1,k2]; rfl,hat,hbl⟩
      refine bodyPost_ret (v:=.agg #[.string ⟨#[]⟩,.int .i64 s.dep,.int .i64 0,.slice Av m cv,.slice none 0 0,.slice none 0 0]) ?_ rfl hV
      obtain ⟨m0,m1,m2,m3,m4,m5⟩:=blk6 hb
      simp [results,Tryz.results14,go_sem,m0,m1,m2,m3,m4,m5]
     ·have s2:=(HW2.out.sbx.cell 2).trans (show _=some (Value.int .i64 s.day) from rfl)
      have o2:=(HW2.out.out.cell 2).trans (show _=some (Value.int .i64 0) from rfl)
      have f2:=HW2.out.out.frozen 2
      have HX2:=Lib.hid (HW2.out.set (x':=⟨#[]⟩) (d':=s.dep) (y':=s.day) 2 (.int .i64 s.day) (HW2.out.out.set_ 2 _))
      go_upto_region 14 with fail
      clear HW2 s2 o2 f2
      obtain ⟨c0,c1,c2,c3,c4,c5⟩:=blk6 HX2.out.out
      obtain ⟨r0,r1,r2,r3,r4,r5⟩:=blk6 (blkZ6 HX2.out.res)
      obtain ⟨g0,g1,g2,g3,g4,g5⟩:=frz6 HX2.out.res
      go_wp2_with fail
      obtain ⟨A9,c9,e9,fin⟩:=HX2.out.fin
      obtain ⟨hb,hat,hbl⟩:=fin _ rfl
      rw [HMS.out] at hat
      have hV:VisE s r w (.returned (.agg #[.string ⟨#[]⟩,.int .i64 s.dep,.int .i64 s.day,.slice Av m cv,.slice none 0 0,.slice none 0 0])) _:=⟨Av,m,cv,by unfold visS; simp only [k0,k1,k2]; rfl,hat,hbl⟩
      refine bodyPost_ret (v:=.agg #[.string ⟨#[]⟩,.int .i64 s.dep,.int .i64 s.day,.slice Av m cv,.slice none 0 0,.slice none 0 0]) ?_ rfl hV
      obtain ⟨m0,m1,m2,m3,m4,m5⟩:=blk6 hb
      simp [results,Tryz.results14,go_sem,m0,m1,m2,m3,m4,m5]
   ·have s0:=(HW0.out.sbx.cell 0).trans (show _=some (Value.string s.resp) from rfl)
    have o0:=(HW0.out.out.cell 0).trans (show _=some (Value.string ⟨#[]⟩) from rfl)
    have f0:=HW0.out.out.frozen 0
    have HX0:=Lib.hid (HW0.out.set (x':=s.resp) (d':=0) (y':=0) 0 (.string s.resp) (HW0.out.out.set_ 0 _))
    obtain ⟨y0,y1,y2,y3,y4,y5⟩:=blk6 HX0.out.sbx
    go_wp2_with fail
    clear y0 y1 y2 y3 y4 y5 HW0 s0 o0 f0
    refine (HX0.out.sees HL.out deptB).mono ?_
    rintro e w11 ⟨rfl,hq1,hv1⟩
    have HW1:=Lib.hid hv1
    clear hq1 hv1 HX0
    cases k1:seesS s.shw r deptB
    ·skip
     obtain ⟨y0,y1,y2,y3,y4,y5⟩:=blk6 HW1.out.sbx
     go_wp2_with fail
     clear y0 y1 y2 y3 y4 y5
     refine (HW1.out.sees HL.out dayB).mono ?_
     rintro e w12 ⟨rfl,hq2,hv2⟩
     have HW2:=Lib.hid hv2
     clear hq2 hv2 HW1
     cases k2:seesS s.shw r dayB
     ·go_upto_region 14 with fail
      obtain ⟨c0,c1,c2,c3,c4,c5⟩:=blk6 HW2.out.out
      obtain ⟨r0,r1,r2,r3,r4,r5⟩:=blk6 (blkZ6 HW2.out.res)
      obtain ⟨g0,g1,g2,g3,g4,g5⟩:=frz6 HW2.out.res
      go_wp2_with fail
      obtain ⟨A9,c9,e9,fin⟩:=HW2.out.fin
      obtain ⟨hb,hat,hbl⟩:=fin _ rfl
      rw [HMS.out] at hat
      have hV:VisE s r w (.returned (.agg #[.string s.resp,.int .i64 0,.int .i64 0,.slice Av m cv,.slice none 0 0,.slice none 0 0])) _:=⟨Av,m,cv,by unfold visS; simp only [k0,k1,k2]; rfl,hat,hbl⟩
      refine bodyPost_ret (v:=.agg #[.string s.resp,.int .i64 0,.int .i64 0,.slice Av m cv,.slice none 0 0,.slice none 0 0]) ?_ rfl hV
      obtain ⟨m0,m1,m2,m3,m4,m5⟩:=blk6 hb
      simp [results,Tryz.results14,go_sem,m0,m1,m2,m3,m4,m5]
     ·have s2:=(HW2.out.sbx.cell 2).trans (show _=some (Value.int .i64 s.day) from rfl)
      have o2:=(HW2.out.out.cell 2).trans (show _=some (Value.int .i64 0) from rfl)
      have f2:=HW2.out.out.frozen 2
      have HX2:=Lib.hid (HW2.out.set (x':=s.resp) (d':=0) (y':=s.day) 2 (.int .i64 s.day) (HW2.out.out.set_ 2 _))
      go_upto_region 14 with fail
      clear HW2 s2 o2 f2
      obtain ⟨c0,c1,c2,c3,c4,c5⟩:=blk6 HX2.out.out
      obtain ⟨r0,r1,r2,r3,r4,r5⟩:=blk6 (blkZ6 HX2.out.res)
      obtain ⟨g0,g1,g2,g3,g4,g5⟩:=frz6 HX2.out.res
      go_wp2_with fail
      obtain ⟨A9,c9,e9,fin⟩:=HX2.out.fin
      obtain ⟨hb,hat,hbl⟩:=fin _ rfl
      rw [HMS.out] at hat
      have hV:VisE s r w (.returned (.agg #[.string s.resp,.int .i64 0,.int .i64 s.day,.slice Av m cv,.slice none 0 0,.slice none 0 0])) _:=⟨Av,m,cv,by unfold visS; simp only [k0,k1,k2]; rfl,hat,hbl⟩
      refine bodyPost_ret (v:=.agg #[.string s.resp,.int .i64 0,.int .i64 s.day,.slice Av m cv,.slice none 0 0,.slice none 0 0]) ?_ rfl hV
      obtain ⟨m0,m1,m2,m3,m4,m5⟩:=blk6 hb
      simp [results,Tryz.results14,go_sem,m0,m1,m2,m3,m4,m5]
    ·have s1:=(HW1.out.sbx.cell 1).trans (show _=some (Value.int .i64 s.dep) from rfl)
     have o1:=(HW1.out.out.cell 1).trans (show _=some (Value.int .i64 0) from rfl)
     have f1:=HW1.out.out.frozen 1
     have HX1:=Lib.hid (HW1.out.set (x':=s.resp) (d':=s.dep) (y':=0) 1 (.int .i64 s.dep) (HW1.out.out.set_ 1 _))
     obtain ⟨y0,y1,y2,y3,y4,y5⟩:=blk6 HX1.out.sbx
     go_wp2_with fail
     clear y0 y1 y2 y3 y4 y5 HW1 s1 o1 f1
     refine (HX1.out.sees HL.out dayB).mono ?_
     rintro e w12 ⟨rfl,hq2,hv2⟩
     have HW2:=Lib.hid hv2
     clear hq2 hv2 HX1
     cases k2:seesS s.shw r dayB
     ·go_upto_region 14 with fail
      obtain ⟨c0,c1,c2,c3,c4,c5⟩:=blk6 HW2.out.out
      obtain ⟨r0,r1,r2,r3,r4,r5⟩:=blk6 (blkZ6 HW2.out.res)
      obtain ⟨g0,g1,g2,g3,g4,g5⟩:=frz6 HW2.out.res
      go_wp2_with fail
      obtain ⟨A9,c9,e9,fin⟩:=HW2.out.fin
      obtain ⟨hb,hat,hbl⟩:=fin _ rfl
      rw [HMS.out] at hat
      have hV:VisE s r w (.returned (.agg #[.string s.resp,.int .i64 s.dep,.int .i64 0,.slice Av m cv,.slice none 0 0,.slice none 0 0])) _:=⟨Av,m,cv,by unfold visS; simp only [k0,k1,k2]; rfl,hat,hbl⟩
      refine bodyPost_ret (v:=.agg #[.string s.resp,.int .i64 s.dep,.int .i64 0,.slice Av m cv,.slice none 0 0,.slice none 0 0]) ?_ rfl hV
      obtain ⟨m0,m1,m2,m3,m4,m5⟩:=blk6 hb
      simp [results,Tryz.results14,go_sem,m0,m1,m2,m3,m4,m5]
     ·have s2:=(HW2.out.sbx.cell 2).trans (show _=some (Value.int .i64 s.day) from rfl)
      have o2:=(HW2.out.out.cell 2).trans (show _=some (Value.int .i64 0) from rfl)
      have f2:=HW2.out.out.frozen 2
      have HX2:=Lib.hid (HW2.out.set (x':=s.resp) (d':=s.dep) (y':=s.day) 2 (.int .i64 s.day) (HW2.out.out.set_ 2 _))
      go_upto_region 14 with fail
      clear HW2 s2 o2 f2
      obtain ⟨c0,c1,c2,c3,c4,c5⟩:=blk6 HX2.out.out
      obtain ⟨r0,r1,r2,r3,r4,r5⟩:=blk6 (blkZ6 HX2.out.res)
      obtain ⟨g0,g1,g2,g3,g4,g5⟩:=frz6 HX2.out.res
      go_wp2_with fail
      obtain ⟨A9,c9,e9,fin⟩:=HX2.out.fin
      obtain ⟨hb,hat,hbl⟩:=fin _ rfl
      rw [HMS.out] at hat
      have hV:VisE s r w (.returned (.agg #[.string s.resp,.int .i64 s.dep,.int .i64 s.day,.slice Av m cv,.slice none 0 0,.slice none 0 0])) _:=⟨Av,m,cv,by unfold visS; simp only [k0,k1,k2]; rfl,hat,hbl⟩
      refine bodyPost_ret (v:=.agg #[.string s.resp,.int .i64 s.dep,.int .i64 s.day,.slice Av m cv,.slice none 0 0,.slice none 0 0]) ?_ rfl hV
      obtain ⟨m0,m1,m2,m3,m4,m5⟩:=blk6 hb
      simp [results,Tryz.results14,go_sem,m0,m1,m2,m3,m4,m5]
end Go.Proofs.YtgdngfdeeadlnaaGreatDoor

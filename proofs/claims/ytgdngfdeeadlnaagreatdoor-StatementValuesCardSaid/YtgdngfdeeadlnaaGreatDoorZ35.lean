/- Contracts: statement.Check of any form and statement. And more. -/
import Derived.Test.YtgdngfdeeadlnaaGreatDoorZ33
import Derived.Test.YtgdngfdeeadlnaaGreatDoorZ34
import Derived.Test.YtgdngfdeeadlnaaGreatDoorZ30
import Derived.Test.YtgdngfdeeadlnaaGreatDoorZ24
import Derived.ArgAppend
import Derived.Test.YtgdngfdeeadlnaaGreatDoorZ32
set_option linter.unusedVariables false
set_option linter.unusedSimpArgs false
namespace Go.Proofs.YtgdngfdeeadlnaaGreatDoor
open Go.RowKit Num
noncomputable def chkS (title : ByteArray) (L : List Fld) (s : Stm) : Int :=
 if validB title L=false then 1 else if (s.resp.toList == [])=true ∨ 256 < s.resp.size ∨ 32 < s.ans.length ∨ 16 < s.shw.length then 3 else if s.dep < 0 ∨ 63 < s.dep then 2 else if s.day < 0 ∨ 3652058 < s.day then 10
 else if ansF L s.ans=false then 13 else if asksF L s.cond=false then 14 else if shwF L s.shw=false then 4 else 0
def ChkE (n : Int) (w : World) (e : Ending) (w' : World) : Prop := e = .returned (.int .i64 n) ∧ Below w.heap.size w w'
set_option maxRecDepth 100000 in
set_option maxHeartbeats 8000000 in
theorem s_Check (title : ByteArray) (vf va vc vs : Value) (L : List Fld) (s : Stm) (w : World) (hF : FldsAt w (· < w.heap.size) vf L) (hok : FormOk title L) (hnm : ∀ f ∈ L,f.name.size ≤ maxLen ∧ f.opts.length ≤ 1000000) (hS : StmAt w (· < w.heap.size) va vc vs s) (hso : StmOk s) :
  Calls Tryz.prog 25 #[.agg #[.string title,vf],.agg #[.string s.resp,.int .i64 s.dep,.int .i64 s.day,va,vc,vs]] w (ChkE (chkS title L s) w):=by
 obtain ⟨Af,nf,cf,rfl,-⟩:=id hF
 obtain ⟨Aa,na,ca,rfl,hna,-,-⟩:=id hS.aa
 obtain ⟨Ac,nc,cc,rfl,-⟩:=id hS.cc
 obtain ⟨As,ns,cs,rfl,hns,-,-⟩:=id hS.ss
 have hb2:Below w.heap.size w ((w.alloc (.cells #[.string title,.slice Af nf cf] 37)).alloc (.cells #[.string s.resp,.int .i64 s.dep,.int .i64 s.day,.slice Aa na ca,.slice Ac nc cc,.slice As ns cs] 29)):=((Below.refl _ _).alloc (Nat.le_refl _) _).alloc (by simp) _
 have hbf:Blk ((w.alloc (.cells #[.string title,.slice Af nf cf] 37)).alloc (.cells #[.string s.resp,.int .i64 s.dep,.int .i64 s.day,.slice Aa na ca,.slice Ac nc cc,.slice As ns cs] 29)) w.heap.size 37 #[.string title,.slice Af nf cf]:=(Blk.new w _ _).alloc _
 have hbs:Blk ((w.alloc (.cells #[.string title,.slice Af nf cf] 37)).alloc (.cells #[.string s.resp,.int .i64 s.dep,.int .i64 s.day,.slice Aa na ca,.slice Ac nc cc,.slice As ns cs] 29)) (w.heap.size+1) 29 #[.string s.resp,.int .i64 s.dep,.int .i64 s.day,.slice Aa na ca,.slice Ac nc cc,.slice As ns cs]:=by
  have:=Blk.new (w.alloc (.cells #[.string title,.slice Af nf cf] 37)) 29 #[.string s.resp,.int .i64 s.dep,.int .i64 s.day,.slice Aa na ca,.slice Ac nc cc,.slice As ns cs]
  rwa [World.size_alloc] at this
 have up:∀ W,Below w.heap.size w W → FldsAt W (· < W.heap.size) (.slice Af nf cf) L ∧ StmAt W (· < W.heap.size) (.slice Aa na ca) (.slice Ac nc cc) (.slice As ns cs) s:=fun W hW => ⟨(hF.keep fun b hB => hW.block b hB).mono fun b hB => Nat.lt_of_lt_of_le hB hW.size,(hS.keep fun b hB => hW.block b hB).mono fun b hB => Nat.lt_of_lt_of_le hB hW.size⟩
 have hva:=f_Valid title (.slice Af nf cf) L _ _ (up _ hb2).1 (fun b h => h) hok
 have hl:=hok.2.1
 have pA:=fun W (hW:Below w.heap.size w W) => s_answers (.slice Aa na ca) s.ans title (.slice Af nf cf) L W (up W hW).2.aa hso.an (fun k hk => ⟨(hso.ans k hk).1,(hso.ans k hk).2.1⟩) (up W hW).1 hl hnm
 have pK:=fun W (hW:Below w.heap.size w W) => s_asks (.slice Ac nc cc) s.cond title (.slice Af nf cf) L W (up W hW).2.cc hso.cn hso.cond (up W hW).1 hl
 have pS:=fun W (hW:Below w.heap.size w W) => s_shows (.slice As ns cs) s.shw title (.slice Af nf cf) L W (up W hW).2.ss hso.sn (fun k hk => (hso.shw k hk).2) (up W hW).1 hl
 have PA:=Lib.hid pA
 have PK:=Lib.hid pK
 have PS:=Lib.hid pS
 have HVA:=Lib.hid hva
 have K0:=Lib.hid (And.intro hb2 (And.intro hbf hbs))
 have c0:=(hbf.cell 0).trans (show _=some (Value.string title) from rfl)
 have c1:=(hbf.cell 1).trans (show _=some (Value.slice Af nf cf) from rfl)
 have HNA:=Lib.hid hna
 have HNS:=Lib.hid hns
 have hmx:na ≤ 1000000 ∧ ns ≤ 1000000:=⟨by have:=hso.an; omega,by have:=hso.sn; omega⟩
 have hrz:=hso.resp
 clear hb2 hbf hbs up hva pA pK pS hF hS hso hok hnm hna hns
 go_enter Tryz.func25,Tryz.ntmps25
 go_wp2_with fail
 refine HVA.out.mono ?_
 rintro e w1 ⟨rfl,hb1⟩
 have hB1:=K0.out.1.trans (hb1.mono K0.out.1.size)
 have hbf:=K0.out.2.1.below' hb1 K0.out.2.1.lt
 have hbs:=K0.out.2.2.below' hb1 K0.out.2.2.lt
 have K1:=Lib.hid (And.intro hB1 (And.intro hbf hbs))
 have f0:=(hbf.cell 0).trans (show _=some (Value.string title) from rfl)
 have f1:=(hbf.cell 1).trans (show _=some (Value.slice Af nf cf) from rfl)
 have s0:=(hbs.cell 0).trans (show _=some (Value.string s.resp) from rfl)
 have s1:=(hbs.cell 1).trans (show _=some (Value.int .i64 s.dep) from rfl)
 have s2:=(hbs.cell 2).trans (show _=some (Value.int .i64 s.day) from rfl)
 have s3:=(hbs.cell 3).trans (show _=some (Value.slice Aa na ca) from rfl)
 have s4:=(hbs.cell 4).trans (show _=some (Value.slice Ac nc cc) from rfl)
 have s5:=(hbs.cell 5).trans (show _=some (Value.slice As ns cs) from rfl)
 clear hB1 hbf hbs hb1 K0 HVA c0 c1
 cases hv:validB title L
 ·have hc:chkS title L s=1:=by unfold chkS; rw [if_pos hv]
  have HC:=Lib.hid hc
  clear hc
  go_wp2_with fail
  go_ret
  exact ⟨by rw [HC.out]; rfl,K1.out.1⟩
 ·by_cases h3:(s.resp.toList == [])=true ∨ 256 < s.resp.size ∨ 32 < s.ans.length ∨ 16 < s.shw.length
  ·have hc:chkS title L s=3:=by unfold chkS; rw [if_neg (by simp [hv]),if_pos h3]
   have HC:=Lib.hid hc
   clear hc
   rw [← HNA.out,← HNS.out] at h3
   cases e0:(s.resp.toList == [])
   ·by_cases z1:256 < s.resp.size
    ·have y1:(256:Int) < (s.resp.size:Int):=by omega
     go_wp2_with fail
     go_ret
     exact ⟨by rw [HC.out]; rfl,K1.out.1⟩
    ·have y1:¬ (256:Int) < (s.resp.size:Int):=by omega
     by_cases z2:32 < na
     ·have y2:(32:Int) < (na:Int):=by omega
      go_wp2_with fail
      go_ret
      exact ⟨by rw [HC.out]; rfl,K1.out.1⟩
     ·have y2:¬ (32:Int) < (na:Int):=by omega
      have z3:16 < ns:=by
       rcases h3 with h | h | h | h
       ·rw [e0] at h; cases h
       ·omega
       ·omega
       ·exact h
      have y3:(16:Int) < (ns:Int):=by omega
      clear h3
      go_wp2_with fail
      go_ret
      exact ⟨by rw [HC.out]; rfl,K1.out.1⟩
   ·clear h3
    go_wp2_with fail
    go_ret
    exact ⟨by rw [HC.out]; rfl,K1.out.1⟩
  ·have hc3:chkS title L s=(if s.dep < 0 ∨ 63 < s.dep then 2 else if s.day < 0 ∨ 3652058 < s.day then 10 else if ansF L s.ans=false then 13 else if asksF L s.cond=false then 14 else if shwF L s.shw=false then 4 else 0):=by unfold chkS; rw [if_neg (by simp [hv]),if_neg h3]
   rw [← HNA.out,← HNS.out] at h3
   have e0:(s.resp.toList == [])=false:=by
    cases e:(s.resp.toList == []) with
    | false => rfl
    | true => exact absurd (.inl e) h3
   have y1:¬ (256:Int) < (s.resp.size:Int):=fun h => h3 (.inr (.inl (by omega)))
   have y2:¬ (32:Int) < (na:Int):=fun h => h3 (.inr (.inr (.inl (by omega))))
   have y3:¬ (16:Int) < (ns:Int):=fun h => h3 (.inr (.inr (.inr (by omega))))
   have C3:=Lib.hid hc3
   clear hc3 h3
   by_cases d1:s.dep < 0
   ·have HC:=Lib.hid (C3.out.trans (if_pos (.inl d1)))
    go_wp2_with fail
    go_ret
    exact ⟨by rw [HC.out]; rfl,K1.out.1⟩
   ·by_cases d2:63 < s.dep
    ·have HC:=Lib.hid (C3.out.trans (if_pos (.inr d2)))
     go_wp2_with fail
     go_ret
     exact ⟨by rw [HC.out]; rfl,K1.out.1⟩
    ·have C4:=Lib.hid (C3.out.trans (if_neg (by omega)))
     by_cases g1:s.day < 0
     ·have HC:=Lib.hid (C4.out.trans (if_pos (.inl g1)))
      go_wp2_with fail
      go_ret
      exact ⟨by rw [HC.out]; rfl,K1.out.1⟩
     ·by_cases g2:3652058 < s.day
      ·have HC:=Lib.hid (C4.out.trans (if_pos (.inr g2)))
       go_wp2_with fail
       go_ret
       exact ⟨by rw [HC.out]; rfl,K1.out.1⟩
      ·have C5:=Lib.hid (C4.out.trans (if_neg (by omega)))
       go_wp2_with fail
       refine (PA.out w1 K1.out.1).mono ?_
       rintro e w2 ⟨rfl,hb2⟩
       have hB2:=K1.out.1.trans (hb2.mono K1.out.1.size)
       have hbf:=K1.out.2.1.below' hb2 K1.out.2.1.lt
       have hbs:=K1.out.2.2.below' hb2 K1.out.2.2.lt
       have K2:=Lib.hid (And.intro hB2 (And.intro hbf hbs))
       clear f0 f1 s0 s1 s2 s3 s4 s5 e0 y1 y2 y3
       have f0:=(hbf.cell 0).trans (show _=some (Value.string title) from rfl)
       have f1:=(hbf.cell 1).trans (show _=some (Value.slice Af nf cf) from rfl)
       have s4:=(hbs.cell 4).trans (show _=some (Value.slice Ac nc cc) from rfl)
       clear hB2 hbf hbs hb2 K1 PA
       cases ha:ansF L s.ans
       ·have HC:=Lib.hid (C5.out.trans (if_pos ha))
        go_wp2_with fail
        go_ret
        exact ⟨by rw [HC.out]; rfl,K2.out.1⟩
       ·have C6:=Lib.hid (C5.out.trans (if_neg (by rw [ha]; decide)))
        go_wp2_with fail
        refine (PK.out w2 K2.out.1).mono ?_
        rintro e w3 ⟨rfl,hb3⟩
        have hB3:=K2.out.1.trans (hb3.mono K2.out.1.size)
        have hbf:=K2.out.2.1.below' hb3 K2.out.2.1.lt
        have hbs:=K2.out.2.2.below' hb3 K2.out.2.2.lt
        have K3:=Lib.hid hB3
        clear f0 f1 s4
        have f0:=(hbf.cell 0).trans (show _=some (Value.string title) from rfl)
        have f1:=(hbf.cell 1).trans (show _=some (Value.slice Af nf cf) from rfl)
        have s5:=(hbs.cell 5).trans (show _=some (Value.slice As ns cs) from rfl)
        clear hB3 hbf hbs hb3 K2 PK
        cases hk:asksF L s.cond
        ·have HC:=Lib.hid (C6.out.trans (if_pos hk))
         go_wp2_with fail
         go_ret
         exact ⟨by rw [HC.out]; rfl,K3.out⟩
        ·have C7:=Lib.hid (C6.out.trans (if_neg (by rw [hk]; decide)))
         go_wp2_with fail
         refine (PS.out w3 K3.out).mono ?_
         rintro e w4 ⟨rfl,hb4⟩
         have K4:=Lib.hid (K3.out.trans (hb4.mono K3.out.size))
         clear hb4 f0 f1 s5 K3 PS
         cases hs:shwF L s.shw
         ·have HC:=Lib.hid (C7.out.trans (if_pos hs))
          go_wp2_with fail
          go_ret
          exact ⟨by rw [HC.out]; rfl,K4.out⟩
         ·have HC:=Lib.hid (C7.out.trans (if_neg (by rw [hs]; decide)))
          go_wp2_with fail
          go_ret
          exact ⟨by rw [HC.out]; rfl,K4.out⟩
end Go.Proofs.YtgdngfdeeadlnaaGreatDoor
namespace Go.Proofs.YtgdngfdeeadlnaaGreatDoor
def alwT : Trm := ⟨8,0,0,⟨#[]⟩,⟨#[]⟩,[]⟩
theorem alw_right : rightB [alwT] = true := by kernel_rfl
theorem mem_seen {A : List Ans} {n : ByteArray} : hasT (seenX A) n = true ↔ ∃ a ∈ A,a.field = n := by
 rw [hasT_iff]
 unfold seenX
 rw [List.mem_reverse,List.mem_map]
theorem values_ok {t : ByteArray} {L : List Fld} {A : List Ans} (hv : validB t L = true) (hl : A.length = L.length) (h : ∀ k,k < L.length → (ansAt A k).field = (fldAt L k).name ∧ fitsF (fldAt L k) (ansAt A k) = true) :
  chkS t L ⟨⟨#[120]⟩,0,0,A,[alwT],[]⟩=0:=by
 have hvd:t.size ≤ 256 ∧ L.length ≤ 32 ∧ valK L L.length:=of_decide_eq_true hv
 obtain ⟨-,h32,hk⟩:=hvd
 have hfst:∀ k,k < L.length → fstF L (fldAt L k).name=some k:=fun k hk' => fstF_hit hk' rfl (hk k hk').2
 have hans:ansF L A=true:=by
  rw [ansF_all]
  ·have hno:L.any (lackF (seenX A))=false:=by
    rw [List.any_eq_false]
    intro f hf
    obtain ⟨j,hj,e⟩:=List.getElem_of_mem hf
    have h2:fldAt L j=f:=by unfold fldAt; rw [List.getD_eq_getElem?_getD,List.getElem?_eq_getElem hj]; exact e
    have hs:hasT (seenX A) f.name=true:=mem_seen.2 ⟨ansAt A j,by unfold ansAt; rw [List.getD_eq_getElem?_getD,List.getElem?_eq_getElem (by omega)]; exact List.getElem_mem _,by rw [(h j hj).1,h2]⟩
    unfold lackF
    rw [hs]
    simp
   rw [hno]; rfl
  ·intro i hi
   have hi':i < L.length:=by omega
   obtain ⟨h1,h2⟩:=h i hi'
   unfold okA
   rw [h1,hfst i hi']
   have hns:hasT (seenX (A.take i)) (fldAt L i).name=false:=by
    cases e:hasT (seenX (A.take i)) (fldAt L i).name with
    | false => rfl
    | true =>
     obtain ⟨a,ha,ea⟩:=mem_seen.1 e
     obtain ⟨j,hj,e2⟩:=List.getElem_of_mem ha
     rw [List.length_take] at hj
     have hji:j < i:=by omega
     have h3:ansAt A j=a:=by
      unfold ansAt
      rw [List.getD_eq_getElem?_getD,List.getElem?_eq_getElem (by omega)]
      rw [List.getElem_take] at e2
      exact e2
     have h4:=(h j (by omega)).1
     rw [h3,ea] at h4
     exact absurd h4.symm ((hk i hi').2 j hji)
   simp only [hns,Bool.not_false,Bool.true_and]
   exact h2
 have hask:asksF L [alwT]=true:=by
  unfold asksF
  rw [alw_right]
  rfl
 have hsh:shwF L []=true:=rfl
 unfold chkS
 rw [if_neg (by rw [hv]; decide),if_neg ?_,if_neg (show ¬ ((0:Int) < 0 ∨ 63 < (0:Int)) by decide),if_neg (show ¬ ((0:Int) < 0 ∨ 3652058 < (0:Int)) by decide),if_neg (by rw [hans]; decide),if_neg (by rw [hask]; decide),if_neg (by rw [hsh]; decide)]
 show ¬ (((⟨#[120]⟩:ByteArray).toList == [])=true ∨ 256 < (⟨#[120]⟩:ByteArray).size ∨ 32 < A.length ∨ 16 < ([] : List Shw).length)
 have e1:((⟨#[120]⟩:ByteArray).toList == [])=false:=by rw [ByteArray.toList_eq]; rfl
 rw [e1]
 have e2:(⟨#[120]⟩:ByteArray).size=1:=rfl
 have e3:([] : List Shw).length=0:=rfl
 rw [e2,e3]
 rintro (h | h | h | h)
 ·cases h
 ·omega
 ·omega
 ·omega
end Go.Proofs.YtgdngfdeeadlnaaGreatDoor
namespace Go.Proofs.YtgdngfdeeadlnaaGreatDoor
open Go.RowKit Num
structure VSt (w W : World) (s : Stm) (r : ByteArray) (va vc vs : Value) (x : ByteArray) (d y : Int) (L : List Ans) (v' : Value) : Prop where
  old : Below w.heap.size w W
  sbx : Blk W w.heap.size 29 #[.string s.resp, .int .i64 s.dep, .int .i64 s.day, va, vc, vs]
  rbx : Blk W (w.heap.size + 1) 9 #[.string r]
  res : Blk W (w.heap.size + 2) 29 stmZ
  out : Blk W (w.heap.size + 3) 29 #[.string x, .int .i64 d, .int .i64 y, v', .slice none 0 0, .slice none 0 0]
  row : W.ownsRow (w.heap.size + 3) 50 3 v' L.length (ansC L)
  at_ : StmAt W (· < w.heap.size) va vc vs s
section
variable {w W W' : World} {s : Stm} {r : ByteArray} {va vc vs v' v2 : Value} {x x' : ByteArray} {d y d' y' : Int} {L : List Ans} {o : Obj}
theorem VSt.below (h : VSt w W s r va vc vs x d y L v') (hb : Below W.heap.size W W') : VSt w W' s r va vc vs x d y L v' := by
 have ho:=h.old.size
 have l1:=h.sbx.lt
 have l2:=h.rbx.lt
 have l3:=h.res.lt
 have l4:=h.out.lt
 refine ⟨h.old.trans (hb.mono ho),h.sbx.below' hb l1,h.rbx.below' hb l2,h.res.below' hb l3,h.out.below' hb l4,h.row.kept (only_of_below hb none) ?_,h.at_.keep fun q hq => hb.block q (by omega)⟩
 rcases hq:v'.ownBlock with _ | q
 ·exact .inl rfl
 ·exact .inr (by simp)
theorem VSt.alloc (h : VSt w W s r va vc vs x d y L v') (o : Obj) : VSt w (W.alloc o) s r va vc vs x d y L v' := h.below (below_al' W o)
theorem VSt.set (h : VSt w W s r va vc vs x d y L v') (i : Nat) (v : Value) (hb : Blk (W.setCell ⟨w.heap.size + 3,i,none⟩ v) (w.heap.size + 3) 29 #[.string x',.int .i64 d',.int .i64 y',v',.slice none 0 0,.slice none 0 0]) : VSt w (W.setCell ⟨w.heap.size + 3,i,none⟩ v) s r va vc vs x' d' y' L v' := by
 have hset:W.grownBy (W.setCell ⟨w.heap.size+3,i,none⟩ v) (some (w.heap.size+3)):=grown_setCell W ⟨w.heap.size+3,i,none⟩ v
 have l4:=h.out.lt
 have kb:∀ q,q < w.heap.size+3 → (W.setCell ⟨w.heap.size+3,i,none⟩ v).heap[q]?=W.heap[q]?:=fun q hq => hset.block q (by omega) (fun e => by injection e; omega)
 exact ⟨⟨hset.os.trans h.old.os,hset.tape.trans h.old.tape,hset.output.trans h.old.output,Nat.le_trans h.old.size hset.size,fun q hq => (kb q (by omega)).trans (h.old.block q hq)⟩,
  (kb _ (by omega)).trans h.sbx,(kb _ (by omega)).trans h.rbx,(kb _ (by omega)).trans h.res,hb,h.row.kept hset (.inr fun e => by have:=own_above h.row h.out (by decide) _ e; omega),h.at_.keep fun q hq => kb q (by omega)⟩
theorem VSt.fin (h : VSt w W s r va vc vs x d y L v') : ∃ Aa ca,v' = .slice Aa L.length ca ∧
  ∀ W2,W2=(((((W.setCell ⟨w.heap.size+2,0,none⟩ (.string x)).setCell ⟨w.heap.size+2,1,none⟩ (.int .i64 d)).setCell ⟨w.heap.size+2,2,none⟩ (.int .i64 y)).setCell ⟨w.heap.size+2,3,none⟩ v').setCell ⟨w.heap.size+2,4,none⟩ (.slice none 0 0)).setCell ⟨w.heap.size+2,5,none⟩ (.slice none 0 0) →
   Blk W2 (w.heap.size+2) 29 #[.string x,.int .i64 d,.int .i64 y,v',.slice none 0 0,.slice none 0 0] ∧ AnssAt W2 (fun b => w.heap.size ≤ b ∧ b < W2.heap.size) v' L ∧ Below w.heap.size w W2:=by
 obtain ⟨Aa,ca,rfl⟩:=own_slice h.row
 refine ⟨Aa,ca,rfl,fun W2 hW2 => ?_⟩
 have hc:Chg W W2 (fun q => q=w.heap.size+2):=by
  rw [hW2]
  exact Chg.setCell (Chg.setCell (Chg.setCell (Chg.setCell (Chg.setCell (Chg.setCell (Chg.refl W (fun q => q=w.heap.size+2)) ⟨w.heap.size+2,0,none⟩ (fun _ => rfl) _) ⟨w.heap.size+2,1,none⟩ (fun _ => rfl) _) ⟨w.heap.size+2,2,none⟩ (fun _ => rfl) _) ⟨w.heap.size+2,3,none⟩ (fun _ => rfl) _) ⟨w.heap.size+2,4,none⟩ (fun _ => rfl) _) ⟨w.heap.size+2,5,none⟩ (fun _ => rfl) _
 have hb:Blk W2 (w.heap.size+2) 29 #[.string x,.int .i64 d,.int .i64 y,.slice Aa L.length ca,.slice none 0 0,.slice none 0 0]:=by
  rw [hW2]
  exact (((((h.res.set_ 0 _).set_ 1 _).set_ 2 _).set_ 3 _).set_ 4 _).set_ 5 _
 have hs:=hc.size
 have ho:=h.old.size
 refine ⟨hb,((AnssAt.of_own h.row).keep fun q hq => hc.block q hq.2 (by omega)).mono fun q hq => ⟨by omega,by omega⟩,⟨hc.os.trans h.old.os,hc.tape.trans h.old.tape,hc.output.trans h.old.output,Nat.le_trans ho hs,fun q hq => (hc.block q (Nat.lt_of_lt_of_le hq ho) (by omega)).trans (h.old.block q hq)⟩⟩
end
end Go.Proofs.YtgdngfdeeadlnaaGreatDoor
namespace Go.Proofs.YtgdngfdeeadlnaaGreatDoor
open Go.RowKit Num Go.Maps Go.WideMaps
theorem elem_str_inv {P : Program} {e : TypeId} (he : P.underlying e = some .string) {v : Value} {l : List UInt8} {z : List MemPlace} (h : plainElem (H := Unit) P e v = some (.lit (.string l),z)) : v = .string ⟨l.toArray⟩ := by
 unfold plainElem at h
 rw [he] at h
 cases v <;> simp at h
 rename_i s
 have h1:s.data.toList=l:=by simpa using h.2.1
 rw [← h1]
theorem ismLaw : Keyed Tryz.prog 3 := int_keyed Tryz.underlying3
theorem ismZero (w : World) : (zeroValue 9).run Tryz.prog w = .ok (.string ⟨#[]⟩) w := by kernel_rfl
theorem i64_wf {k : Int} (h : In64' k) : (Lit.int .i64 k).wf = true := by
 unfold In64' at h
 show (decide ((-9223372036854775808:Int) ≤ k) && decide (k ≤ 9223372036854775807))=true
 rw [Bool.and_eq_true,decide_eq_true_iff,decide_eq_true_iff]
 omega
def ISM (W : World) (b n : Nat) (f : Int → ByteArray) : Prop :=
 ∃ D:DataW Unit,W.ownsMap Tryz.prog 3 (plainElem Tryz.prog 9) b n D ∧ ∀ k:Int,In64' k → D.atKey (.int .i64 k) (.lit (.string []))=.lit (.string (f k).data.toList)
section
variable {W W' : World} {b n : Nat} {f : Int → ByteArray}
theorem ISM.new (W : World) : ISM (W.alloc (.map #[] 0)) W.heap.size 0 (fun _ => ⟨#[]⟩) :=
 ⟨.map [],World.ownsMap_made _ _ _ _,fun s _ => rfl⟩
theorem ISM.lt (h : ISM W b n f) : b < W.heap.size := by
 obtain ⟨D,h1,-⟩:=h
 exact h1.lt
set_option maxRecDepth 100000 in
theorem ISM.look (h : ISM W b n f) (k : Int) (hk : In64' k) : (Instr.lookup 59 (.map (some b)) (.int .i64 k) false).run Tryz.prog W = .ok (.string (f k)) W := by
 obtain ⟨D,h1,h2⟩:=h
 obtain ⟨v,ps,hrun,hv⟩:=h1.lookup ismLaw Tryz.underlying59 (ismZero W) (plainElem_string (s:=⟨#[]⟩) Tryz.underlying9 (by decide)) (keyOf_int_mk Tryz.underlying3 (i64_wf hk))
 have e:=h2 k hk
 rw [show ((⟨#[]⟩:ByteArray).data.toList) = [] from rfl,e] at hv
 have:=elem_str_inv Tryz.underlying9 hv
 rw [hrun,this]
set_option maxRecDepth 100000 in
theorem ISM.put (h : ISM W b n f) (hn : n < maxLen) (k : Int) (hk : In64' k) (s : ByteArray) (hs : s.size ≤ maxLen) : ∃ W',(Instr.mapUpdate 59 (.map (some b)) (.int .i64 k) (.string s)).run Tryz.prog W = .ok () W' ∧ ISM W' b (n + 1) (fun x => if x = k then s else f x) ∧ W.grownBy W' (some b) := by
 obtain ⟨D,h1,h2⟩:=h
 obtain ⟨W',hrun,ho,hg⟩:=h1.update ismLaw Tryz.underlying59 hn (keyOf_int_mk Tryz.underlying3 (i64_wf hk)) (plainElem_string (H:=Unit) Tryz.underlying9 hs)
 refine ⟨W',hrun,⟨_,ho,fun x hx => ?_⟩,hg⟩
 have hkl:WideAt.IsKeyLit (.int .i64 k):=ismLaw.key (keyOf_int_mk Tryz.underlying3 (i64_wf hk))
 by_cases e:x=k
 ·subst e
  rw [atKey_put_same h1.isMap hkl]
  simp
 ·have hne:(Lit.int .i64 x) ≠ Lit.int .i64 k:=fun h => e (by injection h)
  have h3:=atKey_put_other (D:=D) hne (.lit (.string s.data.toList)) (.lit (.string []))
  rw [h3,h2 x hx]
  simp [e]
end
end Go.Proofs.YtgdngfdeeadlnaaGreatDoor

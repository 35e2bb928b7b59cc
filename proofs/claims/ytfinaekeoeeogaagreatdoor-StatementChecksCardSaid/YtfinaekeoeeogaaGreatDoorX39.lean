/- What an argument that is a statement holds: answers, terms, shows. And more. -/
import Derived.Test.YtfinaekeoeeogaaGreatDoorX09
import Derived.Test.YtfinaekeoeeogaaGreatDoorX33
import Derived.OpenShut
import Derived.SevenTiedAt
set_option linter.unusedVariables false
set_option linter.unusedSimpArgs false
namespace Go.Proofs.YtfinaekeoeeogaaGreatDoor
open Go.ChangeShapes Go.WideShapes Go.RowKit
section
variable {H : Type} {enc : TypeId × Value → H} {P : Program} {w : World} {base : Nat} {spare : Nat → Bool} {held : Bool}
theorem trod_struct3 {t : TypeId} {f0 f1 f2 : Field} {fuel : Nat} {cs : List Value} {x : DataW H × List MemPlace} (ht : P.underlying t = some (.struct #[f0,f1,f2])) (h : DataW.trod enc P w base spare held fuel t cs = some x) :
  ∃ y0 y1 y2 n,x=(.agg [y0.1,y1.1,y2.1],y0.2 ++ (y1.2 ++ y2.2)) ∧ cs.length=P.cellsOf t ∧ DataW.trod enc P w base spare held n f0.type ((cs.drop f0.offset).take (P.cellsOf f0.type))=some y0 ∧
   DataW.trod enc P w base spare held n f1.type ((cs.drop f1.offset).take (P.cellsOf f1.type))=some y1 ∧ DataW.trod enc P w base spare held n f2.type ((cs.drop f2.offset).take (P.cellsOf f2.type))=some y2:=by
 obtain ⟨xs,n,_,rfl,hl,hlen,hf⟩:=DataW.trod_struct ht h
 match xs,hlen with
 | [y0,y1,y2],_ => exact ⟨y0,y1,y2,n,by simp,hl,by simpa using hf 0 f0 rfl,by simpa using hf 1 f1 rfl,by simpa using hf 2 f2 rfl⟩
end
def AnsWide (a : Ans) : Prop := a.field.size ≤ maxLen ∧ a.text.size ≤ maxLen ∧ (Lit.int .i64 a.num).wf = true
def ShwWide (a : Shw) : Prop := a.field.size ≤ maxLen ∧ a.role.size ≤ maxLen
structure StmWide (s : Stm) : Prop where
  resp : s.resp.size ≤ maxLen
  dep : (Lit.int .i64 s.dep).wf = true
  day : (Lit.int .i64 s.day).wf = true
  an : s.ans.length ≤ maxLen
  ans : ∀ a ∈ s.ans, AnsWide a
  sn : s.shw.length ≤ maxLen
  shw : ∀ a ∈ s.shw, ShwWide a
  cn : s.cond.length ≤ maxLen
  cond : ∀ t ∈ s.cond, TrmWide t
section
variable {H : Type} {enc : TypeId × Value → H} {w : World} {held : Bool}
theorem termTy : ∃ f0 f1 f2 f3 f4 f5,TermTy Tryz.prog 51 f0 f1 f2 f3 f4 f5 3 :=
 ⟨_,_,_,_,_,_,Tryz.underlying51,⟨rfl,rfl,rfl,rfl,rfl,rfl⟩,⟨by kernel_rfl,by kernel_rfl,by kernel_rfl,by kernel_rfl,by kernel_rfl,by kernel_rfl⟩,by kernel_rfl,Tryz.underlying3,Tryz.underlying3,Tryz.underlying3,Tryz.underlying9,Tryz.underlying9,Tryz.underlying22,Tryz.underlying3,by kernel_rfl⟩
end
end Go.Proofs.YtfinaekeoeeogaaGreatDoor
namespace Go.Proofs.YtfinaekeoeeogaaGreatDoor
open Go.RowKit Num
def ansN (A : List Ans) : Nat := (A.map fun a => a.field.size + a.text.size).sum
def shwN (A : List Shw) : Nat := (A.map fun a => a.field.size + a.role.size).sum
def trmN (A : List Trm) : Nat := (A.map fun t => t.text.size + t.field.size).sum
def smlN (s : Stm) : Nat := s.resp.size + ansN s.ans + shwN s.shw + trmN s.cond
def smallS (s : Stm) : Bool := (s.cond.all fun t => decide (t.args.length ≤ 30)) && decide (smlN s < 3000) && decide (s.ans.length ≤ 40) && decide (s.shw.length ≤ 30) && decide (s.cond.length ≤ 40)
theorem sum_le {T : Type} (f : T → Nat) : ∀ {A : List T} {a : T},a ∈ A → f a ≤ (A.map f).sum
 | b :: A,a,h => by
  rw [List.map_cons,List.sum_cons]
  rcases List.mem_cons.1 h with rfl | h
  ·omega
  ·have:=sum_le f h
   omega
theorem smallS_ok {s : Stm} (h : smallS s = true) (hw : StmWide s) : StmOk s ∧ ∀ t ∈ s.cond,t.args.length ≤ 30 := by
 unfold smallS at h
 simp only [Bool.and_eq_true,decide_eq_true_eq,List.all_eq_true] at h
 obtain ⟨⟨⟨⟨h1,h2⟩,h3⟩,h4⟩,h5⟩:=h
 unfold smlN at h2
 have hans:∀ a ∈ s.ans,a.field.size+a.text.size ≤ ansN s.ans:=fun a ha => sum_le (fun a:Ans => a.field.size+a.text.size) ha
 have hshw:∀ a ∈ s.shw,a.field.size+a.role.size ≤ shwN s.shw:=fun a ha => sum_le (fun a:Shw => a.field.size+a.role.size) ha
 have htrm:∀ t ∈ s.cond,t.text.size+t.field.size ≤ trmN s.cond:=fun t ht => sum_le (fun t:Trm => t.text.size+t.field.size) ht
 have am:∀ k,k < s.ans.length → ansAt s.ans k ∈ s.ans:=fun k hk => by
  unfold ansAt; rw [List.getD_eq_getElem?_getD,List.getElem?_eq_getElem hk]; exact List.getElem_mem hk
 have sm:∀ k,k < s.shw.length → shwAt s.shw k ∈ s.shw:=fun k hk => by
  unfold shwAt; rw [List.getD_eq_getElem?_getD,List.getElem?_eq_getElem hk]; exact List.getElem_mem hk
 have in64:∀ n:Int,(Lit.int .i64 n).wf=true → In64' n:=fun n hn => by
  have:=bounds_i64 hn
  exact ⟨by omega,by omega⟩
 refine ⟨⟨by omega,in64 _ hw.dep,in64 _ hw.day,by omega,fun k hk => ?_,by omega,fun k hk => ?_,by omega,fun t ht => ?_⟩,h1⟩
 ·have:=hans _ (am k hk)
  exact ⟨by omega,by omega,in64 _ (hw.ans _ (am k hk)).2.2⟩
 ·have:=hshw _ (sm k hk)
  exact ⟨by omega,by omega⟩
 ·have h6:=htrm t ht
  have h7:=h1 t ht
  exact ⟨by omega,by omega,by omega⟩
end Go.Proofs.YtfinaekeoeeogaaGreatDoor
namespace Go.Proofs.YtfinaekeoeeogaaGreatDoor
open Go.ChangeShapes Go.WideShapes Go.RowKit
section
variable {H : Type} {enc : TypeId × Value → H} {P : Program} {w : World} {base : Nat} {spare : Nat → Bool} {held : Bool}
theorem mem_weightsAll {e : TypeId} {d : DataW H} {x : Nat} : ∀ {l : List (DataW H)},d ∈ l → x ∈ DataW.weights P e d → x ∈ DataW.weightsAll P e l
 | a :: r,hd,hx => by
  unfold DataW.weightsAll
  rcases List.mem_cons.1 hd with h | h
  ·rw [← h]; exact List.mem_append_left _ hx
  ·exact List.mem_append_right _ (mem_weightsAll h hx)
theorem rows_factS {T : Type} (d : T) {te ts : TypeId} {k : Nat} (Q : Nat → Nat → T → Prop) (hg : P.underlying ts = some (.slice te)) (hk : P.cellsOf te = k) (hk0 : 0 < k)
  (each:∀ (a:Addr) (cs:List Value) (n:Nat) (y:DataW H × List MemPlace),w.cells? 0 a k=some cs → DataW.trod enc P w 0 (fun _ => true) held n te cs=some y → (∀ p ∈ y.2,p.block < w.heap.size) → (∀ x ∈ DataW.weights P te y.1,x ≤ reachBytes) → ∃ b off t,a=⟨b,off,none⟩ ∧ Q b off t)
  {fuel:Nat} {v:Value} {y:DataW H × List MemPlace} (h:DataW.trod enc P w 0 (fun _ => true) held fuel ts [v]=some y) (hlt:∀ p ∈ y.2,p.block < w.heap.size) (hsz:∀ x ∈ DataW.weights P ts y.1,x ≤ reachBytes) :
  ∃ (A:Option Addr) (n c:Nat) (L:List T),v=.slice A n c ∧ n=L.length ∧ n ≤ c ∧ n ≤ maxLen ∧ (0 < n → ∃ b off,A=some ⟨b,off,none⟩ ∧ b < w.heap.size ∧ ∀ j,j < n → Q b (off+j*k) (L.getD j d)) ∧ ∀ t ∈ L,∃ b off,Q b off t:=by
 rcases Go.Deep.open_slice (cs:=[v]) hg h with ⟨e,_⟩ | ⟨a,len,cap,kk,q,D,Pl,e,_,hlc,hm,hkk,hy,hel⟩
 ·simp at e
  subst e
  exact ⟨none,0,0,[],rfl,rfl,Nat.le_refl _,Nat.zero_le _,fun h => absurd h (by omega),fun _ h => by cases h⟩
 ·simp at e
  subst e
  simp only [if_true] at hkk
  subst hkk
  have hpl:∀ p ∈ (MemPlace.row a (kk*P.cellsOf te) ++ (List.range kk).flatMap Pl),p.block < w.heap.size:=by rw [hy] at hlt; exact hlt
  have hwz:∀ i,i < kk → ∀ x ∈ DataW.weights P te (D i),x ≤ reachBytes:=by
   intro i hi x hx
   refine hsz x ?_
   rw [hy]
   unfold DataW.weights
   rw [hg]
   refine List.mem_cons_of_mem _ (List.mem_append.2 ?_)
   rcases Nat.lt_or_ge i len with h | h
   ·exact .inl (mem_weightsAll (List.mem_map.2 ⟨i,List.mem_range.2 h,rfl⟩) hx)
   ·refine .inr (mem_weightsAll (List.mem_map.2 ⟨i - len,List.mem_range.2 (by omega),?_⟩) hx)
    show D (len+(i - len))=D i
    rw [show len+(i - len)=i by omega]
  have each':∀ i,i < kk → ∃ bt:Nat × Nat × T,a.add (i*k)=⟨bt.1,bt.2.1,none⟩ ∧ Q bt.1 bt.2.1 bt.2.2:=by
   intro i hi
   obtain ⟨cs',c1,c2⟩:=hel i hi
   rw [hk] at c1
   obtain ⟨b,off,t,z1,z2⟩:=each _ _ _ _ c1 c2 (fun p hp => hpl p (List.mem_append_right _ (List.mem_flatMap.2 ⟨i,List.mem_range.2 hi,hp⟩))) (fun x hx => hwz i hi x hx)
   exact ⟨(b,off,t),z1,z2⟩
  haveI:Inhabited (Nat × Nat × T):=⟨(0,0,d)⟩
  obtain ⟨F,hF⟩:=Go.Deep.choose_lt each'
  have hL:((List.range len).map fun i => (F i).2.2).length=len:=by simp
  refine ⟨some a,len,kk,(List.range len).map fun i => (F i).2.2,rfl,hL.symm,hlc,by omega,fun hn => ?_,fun t ht => ?_⟩
  ·obtain ⟨z1,z2⟩:=hF 0 (by omega)
   have ha0:a=⟨(F 0).1,(F 0).2.1,none⟩:=by simpa [Addr.add] using z1
   refine ⟨(F 0).1,(F 0).2.1,congrArg some ha0,?_,fun j hj => ?_⟩
   ·refine hpl (.cell (F 0).1 (F 0).2.1) (List.mem_append_left _ (MemPlace.mem_row.2 ⟨0,?_,?_⟩))
    ·rw [hk]; exact Nat.mul_pos (by omega) hk0
    ·rw [ha0]; rfl
   ·obtain ⟨y1,y2⟩:=hF j (by omega)
    rw [ha0,add_plain] at y1
    injection y1 with q1 q2
    have ej:((List.range len).map fun i => (F i).2.2).getD j d=(F j).2.2:=by simp [List.getD,hj]
    rw [ej,q2,q1]
    exact y2
  ·obtain ⟨i,hi,rfl⟩:=List.mem_map.1 ht
   exact ⟨_,_,(hF i (by have:=List.mem_range.1 hi; omega)).2⟩
end
structure StmSz (s : Stm) : Prop where
  resp : s.resp.size ≤ reachBytes
  ans : ∀ a ∈ s.ans, a.field.size ≤ reachBytes ∧ a.text.size ≤ reachBytes
  shw : ∀ a ∈ s.shw, a.field.size ≤ reachBytes ∧ a.role.size ≤ reachBytes
  cond : ∀ t ∈ s.cond, t.field.size ≤ reachBytes ∧ t.text.size ≤ reachBytes
section
variable {H : Type} {enc : TypeId × Value → H} {w : World} {held : Bool}
theorem ans_rowS {a : Addr} {n : Nat} {cs : List Value} {y : DataW H × List MemPlace} (hc : w.cells? 0 a 3 = some cs) (h : DataW.trod enc Tryz.prog w 0 (fun _ => true) held n 47 cs = some y) (hs : ∀ x ∈ DataW.weights Tryz.prog 47 y.1,x ≤ reachBytes) :
  ∃ b off t,a=⟨b,off,none⟩ ∧ (w.cell? ⟨b,off,none⟩=some (.string t.field) ∧ w.cell? ⟨b,off+1,none⟩=some (.string t.text) ∧ w.cell? ⟨b,off+2,none⟩=some (.int .i64 t.num)) ∧ AnsWide t ∧ t.field.size ≤ reachBytes ∧ t.text.size ≤ reachBytes:=by
 obtain ⟨_,hlen,hcell⟩:=World.cells?_some hc
 obtain ⟨y0,y1,y2,m,rfl,_,h0,h1,h2⟩:=trod_struct3 Tryz.underlying47 h
 rw [show Tryz.prog.cellsOf 9=1 by kernel_rfl] at h0 h1
 rw [show Tryz.prog.cellsOf 3=1 by kernel_rfl] at h2
 match cs,hlen with
 | [c0,c1,c2],_ =>
  obtain ⟨v0,e0,rfl,w0⟩:=DataW.trod_string Tryz.underlying9 h0
  obtain ⟨v1,e1,rfl,w1⟩:=DataW.trod_string Tryz.underlying9 h1
  obtain ⟨v2,e2,rfl,w2⟩:=DataW.trod_int Tryz.underlying3 h2
  simp at e0 e1 e2
  subst e0 e1 e2
  simp [DataW.weights,DataW.weightsEach,Tryz.underlying47] at hs
  obtain ⟨b,off,spot⟩:=a
  have hspot:spot=none:=by simpa [Addr.add] using World.cell?_spot (hcell 0 (by omega))
  subst hspot
  have at_:∀ i v,i < 3 → [Value.string v0,.string v1,.int .i64 v2][i]?=some v → w.cell? ⟨b,off+i,none⟩=some v:=by
   intro i v hi hv
   have:=hcell i hi
   rw [hv,add_plain] at this
   exact this
  exact ⟨b,off,⟨v0,v1,v2⟩,rfl,⟨at_ 0 _ (by omega) rfl,at_ 1 _ (by omega) rfl,at_ 2 _ (by omega) rfl⟩,⟨w0,w1,w2⟩,hs.1,hs.2⟩
theorem shw_rowS {a : Addr} {n : Nat} {cs : List Value} {y : DataW H × List MemPlace} (hc : w.cells? 0 a 2 = some cs) (h : DataW.trod enc Tryz.prog w 0 (fun _ => true) held n 49 cs = some y) (hs : ∀ x ∈ DataW.weights Tryz.prog 49 y.1,x ≤ reachBytes) :
  ∃ b off t,a=⟨b,off,none⟩ ∧ (w.cell? ⟨b,off,none⟩=some (.string t.field) ∧ w.cell? ⟨b,off+1,none⟩=some (.string t.role)) ∧ ShwWide t ∧ t.field.size ≤ reachBytes ∧ t.role.size ≤ reachBytes:=by
 obtain ⟨_,hlen,hcell⟩:=World.cells?_some hc
 obtain ⟨y0,y1,m,rfl,_,h0,h1⟩:=trod_struct2 Tryz.underlying49 h
 rw [show Tryz.prog.cellsOf 9=1 by kernel_rfl] at h0 h1
 match cs,hlen with
 | [c0,c1],_ =>
  obtain ⟨v0,e0,rfl,w0⟩:=DataW.trod_string Tryz.underlying9 h0
  obtain ⟨v1,e1,rfl,w1⟩:=DataW.trod_string Tryz.underlying9 h1
  simp at e0 e1
  subst e0 e1
  simp [DataW.weights,DataW.weightsEach,Tryz.underlying49] at hs
  obtain ⟨b,off,spot⟩:=a
  have hspot:spot=none:=by simpa [Addr.add] using World.cell?_spot (hcell 0 (by omega))
  subst hspot
  have at_:∀ i v,i < 2 → [Value.string v0,.string v1][i]?=some v → w.cell? ⟨b,off+i,none⟩=some v:=by
   intro i v hi hv
   have:=hcell i hi
   rw [hv,add_plain] at this
   exact this
  exact ⟨b,off,⟨v0,v1⟩,rfl,⟨at_ 0 _ (by omega) rfl,at_ 1 _ (by omega) rfl⟩,⟨w0,w1⟩,hs.1,hs.2⟩
theorem term_factS {base : Nat} {a : Addr} {n : Nat} {cs : List Value} {y : DataW H × List MemPlace} (hc : w.cells? base a 6 = some cs)
  (h:DataW.trod enc Tryz.prog w 0 (fun _ => true) held n 51 cs=some y) (hlt:∀ p ∈ y.2,p.block < w.heap.size) (hs:∀ x ∈ DataW.weights Tryz.prog 51 y.1,x ≤ reachBytes):∃ b off t,a=⟨b,off,none⟩ ∧ TermAt w (· < w.heap.size) b off t ∧ TrmWide t ∧ t.field.size ≤ reachBytes ∧ t.text.size ≤ reachBytes:=by
 obtain ⟨f0,f1,f2,f3,f4,f5,T⟩:=termTy
 have hu:Tryz.prog.underlying 51=some (.struct #[f0,f1,f2,f3,f4,f5]):=T.un
 obtain ⟨_,hlen,hcell⟩:=World.cells?_some hc
 obtain ⟨y0,y1,y2,y3,y4,y5,m,rfl,_,h0,h1,h2,h3,h4,h5⟩:=trod_struct6 T.un h
 obtain ⟨o0,o1,o2,o3,o4,o5⟩:=T.off
 obtain ⟨k0,k1,k2,k3,k4,k5⟩:=T.one
 rw [o0,k0] at h0
 rw [o1,k1] at h1
 rw [o2,k2] at h2
 rw [o3,k3] at h3
 rw [o4,k4] at h4
 rw [o5,k5] at h5
 match cs,hlen with
 | [c0,c1,c2,c3,c4,c5],_ =>
  obtain ⟨v0,e0,rfl,w0⟩:=DataW.trod_int T.i0 h0
  obtain ⟨v1,e1,rfl,w1⟩:=DataW.trod_int T.i1 h1
  obtain ⟨v2,e2,rfl,w2⟩:=DataW.trod_int T.i2 h2
  obtain ⟨v3,e3,rfl,w3⟩:=DataW.trod_string T.s3 h3
  obtain ⟨v4,e4,rfl,w4⟩:=DataW.trod_string T.s4 h4
  obtain ⟨xs,x1,x2,x3⟩:=ints_at_fact (v:=c5) T.l5 T.ie T.ec h5 (fun p hp => hlt p (by simp [hp]))
  simp at e0 e1 e2 e3 e4
  subst e0 e1 e2 e3 e4
  have hs3:v3.size ≤ reachBytes:=hs v3.data.toList.length (by unfold DataW.weights; rw [hu]; simp [DataW.weightsEach,DataW.weights])
  have hs4:v4.size ≤ reachBytes:=hs v4.data.toList.length (by unfold DataW.weights; rw [hu]; simp [DataW.weightsEach,DataW.weights])
  obtain ⟨b,off,spot⟩:=a
  have hspot:spot=none:=by simpa [Addr.add] using World.cell?_spot (hcell 0 (by omega))
  subst hspot
  have at_:∀ i v,i < 6 → [Value.int .i64 v0,.int .i64 v1,.int .i64 v2,.string v3,.string v4,c5][i]?=some v → w.cell? ⟨b,off+i,none⟩=some v:=by
   intro i v hi hv
   have:=hcell i hi
   rw [hv,add_plain] at this
   exact this
  exact ⟨b,off,⟨v0,v1,v2,v3,v4,xs⟩,rfl,⟨at_ 0 _ (by omega) rfl,at_ 1 _ (by omega) rfl,at_ 2 _ (by omega) rfl,at_ 3 _ (by omega) rfl,at_ 4 _ (by omega) rfl,c5,at_ 5 _ (by omega) rfl,x1⟩,⟨w3,w4,x2,w0,w1,w2,x3⟩,hs3,hs4⟩
theorem stm_argS {cs : Array Value} {d : DataW H} {ps : List MemPlace} (h : DataW.Trod enc Tryz.prog w 0 (fun _ => true) held 29 (.agg cs) d ps) (hlt : ∀ p ∈ ps,p.block < w.heap.size) (hsz : ∀ x ∈ DataW.weights Tryz.prog 29 d,x ≤ reachBytes) :
  ∃ s Aa na ca Ac nc cc As ns cs',cs = #[.string s.resp,.int .i64 s.dep,.int .i64 s.day,.slice Aa na ca,.slice Ac nc cc,.slice As ns cs'] ∧ StmAt w (· < w.heap.size) (.slice Aa na ca) (.slice Ac nc cc) (.slice As ns cs') s ∧ StmWide s ∧ StmSz s:=by
 obtain ⟨fuel,hf⟩:=h
 obtain ⟨y0,y1,y2,y3,y4,y5,m,hx,hl,h0,h1,h2,h3,h4,h5⟩:=trod_struct6 Tryz.underlying29 hf
 rw [show Tryz.prog.cellsOf 9=1 by kernel_rfl] at h0
 rw [show Tryz.prog.cellsOf 3=1 by kernel_rfl] at h1 h2
 rw [show Tryz.prog.cellsOf 23=1 by kernel_rfl] at h3
 rw [show Tryz.prog.cellsOf 26=1 by kernel_rfl] at h4
 rw [show Tryz.prog.cellsOf 27=1 by kernel_rfl] at h5
 rw [show Tryz.prog.cellsOf 29=6 by kernel_rfl] at hl
 have hcc:(Value.agg cs).cells.toList=cs.toList:=rfl
 rw [hcc] at h0 h1 h2 h3 h4 h5 hl
 injection hx with hx1 hx2
 subst hx2
 have hpart:∀ x,x ∈ DataW.weights Tryz.prog 9 y0.1 ∨ x ∈ DataW.weights Tryz.prog 23 y3.1 ∨ x ∈ DataW.weights Tryz.prog 26 y4.1 ∨ x ∈ DataW.weights Tryz.prog 27 y5.1 → x ≤ reachBytes:=fun x hx => by
  refine hsz x ?_
  rw [hx1]
  unfold DataW.weights
  rw [Tryz.underlying29]
  simp only [DataW.weightsEach,List.map_cons,List.map_nil,List.mem_append]
  rcases hx with h | h | h | h
  ·exact .inl h
  ·exact .inr (.inr (.inr (.inl h)))
  ·exact .inr (.inr (.inr (.inr (.inl h))))
  ·exact .inr (.inr (.inr (.inr (.inr (.inl h)))))
 match hcs:cs.toList,hl with
 | [v0,v1,v2,v3,v4,v5],_ =>
  rw [hcs] at h0 h1 h2 h3 h4 h5
  have hcs':cs = #[v0,v1,v2,v3,v4,v5]:=Array.toList_inj.1 hcs
  obtain ⟨r,e0,hy0,w0⟩:=DataW.trod_string Tryz.underlying9 h0
  obtain ⟨dd,e1,hy1,w1⟩:=DataW.trod_int Tryz.underlying3 h1
  obtain ⟨yy,e2,hy2,w2⟩:=DataW.trod_int Tryz.underlying3 h2
  simp at e0 e1 e2
  subst e0 e1 e2
  obtain ⟨A3,n3,c3,L3,rfl,l3,k3,m3,p3,q3⟩:=rows_factS (⟨⟨#[]⟩,⟨#[]⟩,0⟩:Ans) (fun b off t => (w.cell? ⟨b,off,none⟩=some (.string t.field) ∧ w.cell? ⟨b,off+1,none⟩=some (.string t.text) ∧ w.cell? ⟨b,off+2,none⟩=some (.int .i64 t.num)) ∧ AnsWide t ∧ t.field.size ≤ reachBytes ∧ t.text.size ≤ reachBytes) Tryz.underlying23 (show _=3 by kernel_rfl) (by decide) (fun a cs n y z1 z2 _ z3 => ans_rowS z1 z2 z3) h3 (fun p hp => hlt p (by simp [hp])) (fun x hx => hpart x (.inr (.inl hx)))
  obtain ⟨A5,n5,c5,L5,rfl,l5,k5,m5,p5,q5⟩:=rows_factS (⟨⟨#[]⟩,⟨#[]⟩⟩:Shw) (fun b off t => (w.cell? ⟨b,off,none⟩=some (.string t.field) ∧ w.cell? ⟨b,off+1,none⟩=some (.string t.role)) ∧ ShwWide t ∧ t.field.size ≤ reachBytes ∧ t.role.size ≤ reachBytes) Tryz.underlying27 (show _=2 by kernel_rfl) (by decide) (fun a cs n y z1 z2 _ z3 => shw_rowS z1 z2 z3) h5 (fun p hp => hlt p (by simp [hp])) (fun x hx => hpart x (.inr (.inr (.inr hx))))
  obtain ⟨z4,m4',hx4,hl4,h4'⟩:=trod_struct1 Tryz.underlying26 h4
  rw [show Tryz.prog.cellsOf 24=1 by kernel_rfl] at h4'
  obtain ⟨A4,n4,c4,L4,e4,l4,k4,m4,p4,q4⟩:=rows_factS (⟨0,0,0,⟨#[]⟩,⟨#[]⟩,[]⟩:Trm) (fun b off t => TermAt w (· < w.heap.size) b off t ∧ TrmWide t ∧ t.field.size ≤ reachBytes ∧ t.text.size ≤ reachBytes) Tryz.underlying24 (show _=6 by kernel_rfl) (by decide) (fun a cs n y z1 z2 z4 z3 => term_factS z1 z2 z4 z3) (by simpa using h4') (fun p hp => hlt p (by simp [hx4,hp]))
   (fun x hx => hpart x (.inr (.inr (.inl (by rw [hx4]; unfold DataW.weights; rw [Tryz.underlying26]; simp only [DataW.weightsEach,List.map_cons,List.map_nil,List.mem_append]; exact .inl hx)))))
  subst e4
  refine ⟨⟨r,dd,yy,L3,L4,L5⟩,A3,n3,c3,A4,n4,c4,A5,n5,c5,hcs',⟨⟨A3,n3,c3,rfl,l3,k3,fun hn => ?_⟩,⟨A4,n4,c4,rfl,l4,k4,fun hn => ?_⟩,⟨A5,n5,c5,rfl,l5,k5,fun hn => ?_⟩⟩,⟨w0,w1,w2,by show L3.length ≤ _; omega,fun a ha => ?_,by show L5.length ≤ _; omega,fun a ha => ?_,by show L4.length ≤ _; omega,fun t ht => ?_⟩,⟨?_,fun a ha => ?_,fun a ha => ?_,fun t ht => ?_⟩⟩
  ·obtain ⟨b,off,hA,hb,hh⟩:=p3 hn
   exact ⟨b,off,hA,hb,fun k hk => (hh k hk).1⟩
  ·obtain ⟨b,off,hA,hb,hh⟩:=p4 hn
   exact ⟨b,off,hA,hb,fun k hk => (hh k hk).1⟩
  ·obtain ⟨b,off,hA,hb,hh⟩:=p5 hn
   exact ⟨b,off,hA,hb,fun k hk => (hh k hk).1⟩
  ·obtain ⟨b,off,hh⟩:=q3 a ha
   exact hh.2.1
  ·obtain ⟨b,off,hh⟩:=q5 a ha
   exact hh.2.1
  ·obtain ⟨b,off,hh⟩:=q4 t ht
   exact hh.2.1
  ·exact hpart r.data.toList.length (.inl (by rw [hy0]; simp [DataW.weights]))
  ·obtain ⟨b,off,hh⟩:=q3 a ha
   exact hh.2.2
  ·obtain ⟨b,off,hh⟩:=q5 a ha
   exact hh.2.2
  ·obtain ⟨b,off,hh⟩:=q4 t ht
   exact hh.2.2
end
end Go.Proofs.YtfinaekeoeeogaaGreatDoor

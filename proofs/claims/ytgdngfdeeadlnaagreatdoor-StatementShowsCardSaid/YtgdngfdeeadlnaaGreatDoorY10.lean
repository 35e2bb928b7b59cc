/- What an argument that is a statement holds, and how long its texts are at most. And more. -/
import Derived.Test.YtgdngfdeeadlnaaGreatDoorY09
import Derived.SevenTiedAt
import Derived.Test.YtgdngfdeeadlnaaGreatDoorY03
import Derived.Test.YtgdngfdeeadlnaaGreatDoorY06
import Derived.Deep.CutRange
import Derived.Deep.CutBlock
import Derived.Test.YtgdngfdeeadlnaaGreatDoorY08
set_option linter.unusedVariables false
set_option linter.unusedSimpArgs false
namespace Go.Proofs.YtgdngfdeeadlnaaGreatDoor
open Go.ChangeShapes Go.WideShapes Go.RowKit
section
variable {H : Type} {enc : TypeId × Value → H} {P : Program} {w : World} {base : Nat} {spare : Nat → Bool} {held : Bool}
theorem mem_weightsAll {e : TypeId} {d : DataW H} {x : Nat} : ∀ {l : List (DataW H)},d ∈ l → x ∈ DataW.weights P e d → x ∈ DataW.weightsAll P e l
 | a :: r,hd,hx => by
  unfold DataW.weightsAll
  rcases List.mem_cons.1 hd with h | h
  ·rw [← h]; exact List.mem_append_left _ hx
  ·exact List.mem_append_right _ (mem_weightsAll h hx)
theorem rows_factS {T : Type} (d : T) {te ts : TypeId} {k : Nat} (Q : Nat → Nat → T → Prop) (hg : P.underlying ts = some (.slice te)) (hk : P.cellsOf te = k) (hk0 : 0 < k)
  (each:∀ (a:Addr) (cs:List Value) (n:Nat) (y:DataW H × List MemPlace),w.cells? 0 a k=some cs → DataW.trod enc P w 0 (fun _ => true) held n te cs=some y → (∀ p ∈ y.2,p.block < w.heap.size) → (∀ x ∈ DataW.weights P te y.1,x ≤ reachBytes) → ∃ b off t,a=⟨b,off,none⟩ ∧ Q b off t)
  {fuel:Nat} {v:Value} {y:DataW H × List MemPlace} (h:DataW.trod enc P w 0 (fun _ => true) held fuel ts [v]=some y) (hlt:∀ p ∈ y.2,p.block < w.heap.size) (hsz:∀ x ∈ DataW.weights P ts y.1,x ≤ reachBytes) :
  ∃ (A:Option Addr) (n c:Nat) (L:List T),v=.slice A n c ∧ n=L.length ∧ n ≤ c ∧ n ≤ maxLen ∧ (0 < n → ∃ b off,A=some ⟨b,off,none⟩ ∧ b < w.heap.size ∧ ∀ j,j < n → Q b (off+j*k) (L.getD j d)) ∧ ∀ t ∈ L,∃ b off,Q b off t:=by
 rcases Go.Deep.open_slice (cs:=[v]) hg h with ⟨e,_⟩ | ⟨a,len,cap,kk,q,D,Pl,e,_,hlc,hm,hkk,hy,hel⟩
 ·simp at e
  subst e
  exact ⟨none,0,0,[],rfl,rfl,Nat.le_refl _,Nat.zero_le _,fun h => absurd h (by omega),fun _ h => by cases h⟩
 ·simp at e
  subst e
  simp only [if_true] at hkk
  subst hkk
  have hpl:∀ p ∈ (MemPlace.row a (kk*P.cellsOf te) ++ (List.range kk).flatMap Pl),p.block < w.heap.size:=by rw [hy] at hlt; exact hlt
  have hwz:∀ i,i < kk → ∀ x ∈ DataW.weights P te (D i),x ≤ reachBytes:=by
   intro i hi x hx
   refine hsz x ?_
   rw [hy]
   unfold DataW.weights
   rw [hg]
   refine List.mem_cons_of_mem _ (List.mem_append.2 ?_)
   rcases Nat.lt_or_ge i len with h | h
   ·exact .inl (mem_weightsAll (List.mem_map.2 ⟨i,List.mem_range.2 h,rfl⟩) hx)
   ·refine .inr (mem_weightsAll (List.mem_map.2 ⟨i - len,List.mem_range.2 (by omega),?_⟩) hx)
    show D (len+(i - len))=D i
    rw [show len+(i - len)=i by omega]
  have each':∀ i,i < kk → ∃ bt:Nat × Nat × T,a.add (i*k)=⟨bt.1,bt.2.1,none⟩ ∧ Q bt.1 bt.2.1 bt.2.2:=by
   intro i hi
   obtain ⟨cs',c1,c2⟩:=hel i hi
   rw [hk] at c1
   obtain ⟨b,off,t,z1,z2⟩:=each _ _ _ _ c1 c2 (fun p hp => hpl p (List.mem_append_right _ (List.mem_flatMap.2 ⟨i,List.mem_range.2 hi,hp⟩))) (fun x hx => hwz i hi x hx)
   exact ⟨(b,off,t),z1,z2⟩
  haveI:Inhabited (Nat × Nat × T):=⟨(0,0,d)⟩
  obtain ⟨F,hF⟩:=Go.Deep.choose_lt each'
  have hL:((List.range len).map fun i => (F i).2.2).length=len:=by simp
  refine ⟨some a,len,kk,(List.range len).map fun i => (F i).2.2,rfl,hL.symm,hlc,by omega,fun hn => ?_,fun t ht => ?_⟩
  ·obtain ⟨z1,z2⟩:=hF 0 (by omega)
   have ha0:a=⟨(F 0).1,(F 0).2.1,none⟩:=by simpa [Addr.add] using z1
   refine ⟨(F 0).1,(F 0).2.1,congrArg some ha0,?_,fun j hj => ?_⟩
   ·refine hpl (.cell (F 0).1 (F 0).2.1) (List.mem_append_left _ (MemPlace.mem_row.2 ⟨0,?_,?_⟩))
    ·rw [hk]; exact Nat.mul_pos (by omega) hk0
    ·rw [ha0]; rfl
   ·obtain ⟨y1,y2⟩:=hF j (by omega)
    rw [ha0,add_plain] at y1
    injection y1 with q1 q2
    have ej:((List.range len).map fun i => (F i).2.2).getD j d=(F j).2.2:=by simp [List.getD,hj]
    rw [ej,q2,q1]
    exact y2
  ·obtain ⟨i,hi,rfl⟩:=List.mem_map.1 ht
   exact ⟨_,_,(hF i (by have:=List.mem_range.1 hi; omega)).2⟩
end
structure StmSz (s : Stm) : Prop where
  resp : s.resp.size ≤ reachBytes
  ans : ∀ a ∈ s.ans, a.field.size ≤ reachBytes ∧ a.text.size ≤ reachBytes
  shw : ∀ a ∈ s.shw, a.field.size ≤ reachBytes ∧ a.role.size ≤ reachBytes
  cond : ∀ t ∈ s.cond, t.field.size ≤ reachBytes ∧ t.text.size ≤ reachBytes
section
variable {H : Type} {enc : TypeId × Value → H} {w : World} {held : Bool}
theorem ans_rowS {a : Addr} {n : Nat} {cs : List Value} {y : DataW H × List MemPlace} (hc : w.cells? 0 a 3 = some cs) (h : DataW.trod enc Tryz.prog w 0 (fun _ => true) held n 50 cs = some y) (hs : ∀ x ∈ DataW.weights Tryz.prog 50 y.1,x ≤ reachBytes) :
  ∃ b off t,a=⟨b,off,none⟩ ∧ (w.cell? ⟨b,off,none⟩=some (.string t.field) ∧ w.cell? ⟨b,off+1,none⟩=some (.string t.text) ∧ w.cell? ⟨b,off+2,none⟩=some (.int .i64 t.num)) ∧ AnsWide t ∧ t.field.size ≤ reachBytes ∧ t.text.size ≤ reachBytes:=by
 obtain ⟨_,hlen,hcell⟩:=World.cells?_some hc
 obtain ⟨y0,y1,y2,m,rfl,_,h0,h1,h2⟩:=trod_struct3 Tryz.underlying50 h
 rw [show Tryz.prog.cellsOf 9=1 by kernel_rfl] at h0 h1
 rw [show Tryz.prog.cellsOf 3=1 by kernel_rfl] at h2
 match cs,hlen with
 | [c0,c1,c2],_ =>
  obtain ⟨v0,e0,rfl,w0⟩:=DataW.trod_string Tryz.underlying9 h0
  obtain ⟨v1,e1,rfl,w1⟩:=DataW.trod_string Tryz.underlying9 h1
  obtain ⟨v2,e2,rfl,w2⟩:=DataW.trod_int Tryz.underlying3 h2
  simp at e0 e1 e2
  subst e0 e1 e2
  simp [DataW.weights,DataW.weightsEach,Tryz.underlying50] at hs
  obtain ⟨b,off,spot⟩:=a
  have hspot:spot=none:=by simpa [Addr.add] using World.cell?_spot (hcell 0 (by omega))
  subst hspot
  have at_:∀ i v,i < 3 → [Value.string v0,.string v1,.int .i64 v2][i]?=some v → w.cell? ⟨b,off+i,none⟩=some v:=by
   intro i v hi hv
   have:=hcell i hi
   rw [hv,add_plain] at this
   exact this
  exact ⟨b,off,⟨v0,v1,v2⟩,rfl,⟨at_ 0 _ (by omega) rfl,at_ 1 _ (by omega) rfl,at_ 2 _ (by omega) rfl⟩,⟨w0,w1,w2⟩,hs.1,hs.2⟩
theorem shw_rowS {a : Addr} {n : Nat} {cs : List Value} {y : DataW H × List MemPlace} (hc : w.cells? 0 a 2 = some cs) (h : DataW.trod enc Tryz.prog w 0 (fun _ => true) held n 73 cs = some y) (hs : ∀ x ∈ DataW.weights Tryz.prog 73 y.1,x ≤ reachBytes) :
  ∃ b off t,a=⟨b,off,none⟩ ∧ (w.cell? ⟨b,off,none⟩=some (.string t.field) ∧ w.cell? ⟨b,off+1,none⟩=some (.string t.role)) ∧ ShwWide t ∧ t.field.size ≤ reachBytes ∧ t.role.size ≤ reachBytes:=by
 obtain ⟨_,hlen,hcell⟩:=World.cells?_some hc
 obtain ⟨y0,y1,m,rfl,_,h0,h1⟩:=trod_struct2 Tryz.underlying73 h
 rw [show Tryz.prog.cellsOf 9=1 by kernel_rfl] at h0 h1
 match cs,hlen with
 | [c0,c1],_ =>
  obtain ⟨v0,e0,rfl,w0⟩:=DataW.trod_string Tryz.underlying9 h0
  obtain ⟨v1,e1,rfl,w1⟩:=DataW.trod_string Tryz.underlying9 h1
  simp at e0 e1
  subst e0 e1
  simp [DataW.weights,DataW.weightsEach,Tryz.underlying73] at hs
  obtain ⟨b,off,spot⟩:=a
  have hspot:spot=none:=by simpa [Addr.add] using World.cell?_spot (hcell 0 (by omega))
  subst hspot
  have at_:∀ i v,i < 2 → [Value.string v0,.string v1][i]?=some v → w.cell? ⟨b,off+i,none⟩=some v:=by
   intro i v hi hv
   have:=hcell i hi
   rw [hv,add_plain] at this
   exact this
  exact ⟨b,off,⟨v0,v1⟩,rfl,⟨at_ 0 _ (by omega) rfl,at_ 1 _ (by omega) rfl⟩,⟨w0,w1⟩,hs.1,hs.2⟩
theorem term_factS {base : Nat} {a : Addr} {n : Nat} {cs : List Value} {y : DataW H × List MemPlace} (hc : w.cells? base a 6 = some cs)
  (h:DataW.trod enc Tryz.prog w 0 (fun _ => true) held n 75 cs=some y) (hlt:∀ p ∈ y.2,p.block < w.heap.size) (hs:∀ x ∈ DataW.weights Tryz.prog 75 y.1,x ≤ reachBytes):∃ b off t,a=⟨b,off,none⟩ ∧ TermAt w (· < w.heap.size) b off t ∧ TrmWide t ∧ t.field.size ≤ reachBytes ∧ t.text.size ≤ reachBytes:=by
 obtain ⟨f0,f1,f2,f3,f4,f5,T⟩:=termTy
 have hu:Tryz.prog.underlying 75=some (.struct #[f0,f1,f2,f3,f4,f5]):=T.un
 obtain ⟨_,hlen,hcell⟩:=World.cells?_some hc
 obtain ⟨y0,y1,y2,y3,y4,y5,m,rfl,_,h0,h1,h2,h3,h4,h5⟩:=trod_struct6 T.un h
 obtain ⟨o0,o1,o2,o3,o4,o5⟩:=T.off
 obtain ⟨k0,k1,k2,k3,k4,k5⟩:=T.one
 rw [o0,k0] at h0
 rw [o1,k1] at h1
 rw [o2,k2] at h2
 rw [o3,k3] at h3
 rw [o4,k4] at h4
 rw [o5,k5] at h5
 match cs,hlen with
 | [c0,c1,c2,c3,c4,c5],_ =>
  obtain ⟨v0,e0,rfl,w0⟩:=DataW.trod_int T.i0 h0
  obtain ⟨v1,e1,rfl,w1⟩:=DataW.trod_int T.i1 h1
  obtain ⟨v2,e2,rfl,w2⟩:=DataW.trod_int T.i2 h2
  obtain ⟨v3,e3,rfl,w3⟩:=DataW.trod_string T.s3 h3
  obtain ⟨v4,e4,rfl,w4⟩:=DataW.trod_string T.s4 h4
  obtain ⟨xs,x1,x2,x3⟩:=ints_at_fact (v:=c5) T.l5 T.ie T.ec h5 (fun p hp => hlt p (by simp [hp]))
  simp at e0 e1 e2 e3 e4
  subst e0 e1 e2 e3 e4
  have hs3:v3.size ≤ reachBytes:=hs v3.data.toList.length (by unfold DataW.weights; rw [hu]; simp [DataW.weightsEach,DataW.weights])
  have hs4:v4.size ≤ reachBytes:=hs v4.data.toList.length (by unfold DataW.weights; rw [hu]; simp [DataW.weightsEach,DataW.weights])
  obtain ⟨b,off,spot⟩:=a
  have hspot:spot=none:=by simpa [Addr.add] using World.cell?_spot (hcell 0 (by omega))
  subst hspot
  have at_:∀ i v,i < 6 → [Value.int .i64 v0,.int .i64 v1,.int .i64 v2,.string v3,.string v4,c5][i]?=some v → w.cell? ⟨b,off+i,none⟩=some v:=by
   intro i v hi hv
   have:=hcell i hi
   rw [hv,add_plain] at this
   exact this
  exact ⟨b,off,⟨v0,v1,v2,v3,v4,xs⟩,rfl,⟨at_ 0 _ (by omega) rfl,at_ 1 _ (by omega) rfl,at_ 2 _ (by omega) rfl,at_ 3 _ (by omega) rfl,at_ 4 _ (by omega) rfl,c5,at_ 5 _ (by omega) rfl,x1⟩,⟨w3,w4,x2,w0,w1,w2,x3⟩,hs3,hs4⟩
theorem stm_argS {cs : Array Value} {d : DataW H} {ps : List MemPlace} (h : DataW.Trod enc Tryz.prog w 0 (fun _ => true) held 29 (.agg cs) d ps) (hlt : ∀ p ∈ ps,p.block < w.heap.size) (hsz : ∀ x ∈ DataW.weights Tryz.prog 29 d,x ≤ reachBytes) :
  ∃ s Aa na ca Ac nc cc As ns cs',cs = #[.string s.resp,.int .i64 s.dep,.int .i64 s.day,.slice Aa na ca,.slice Ac nc cc,.slice As ns cs'] ∧ StmAt w (· < w.heap.size) (.slice Aa na ca) (.slice Ac nc cc) (.slice As ns cs') s ∧ StmWide s ∧ StmSz s:=by
 obtain ⟨fuel,hf⟩:=h
 obtain ⟨y0,y1,y2,y3,y4,y5,m,hx,hl,h0,h1,h2,h3,h4,h5⟩:=trod_struct6 Tryz.underlying29 hf
 rw [show Tryz.prog.cellsOf 9=1 by kernel_rfl] at h0
 rw [show Tryz.prog.cellsOf 3=1 by kernel_rfl] at h1 h2
 rw [show Tryz.prog.cellsOf 23=1 by kernel_rfl] at h3
 rw [show Tryz.prog.cellsOf 26=1 by kernel_rfl] at h4
 rw [show Tryz.prog.cellsOf 27=1 by kernel_rfl] at h5
 rw [show Tryz.prog.cellsOf 29=6 by kernel_rfl] at hl
 have hcc:(Value.agg cs).cells.toList=cs.toList:=rfl
 rw [hcc] at h0 h1 h2 h3 h4 h5 hl
 injection hx with hx1 hx2
 subst hx2
 have hpart:∀ x,x ∈ DataW.weights Tryz.prog 9 y0.1 ∨ x ∈ DataW.weights Tryz.prog 23 y3.1 ∨ x ∈ DataW.weights Tryz.prog 26 y4.1 ∨ x ∈ DataW.weights Tryz.prog 27 y5.1 → x ≤ reachBytes:=fun x hx => by
  refine hsz x ?_
  rw [hx1]
  unfold DataW.weights
  rw [Tryz.underlying29]
  simp only [DataW.weightsEach,List.map_cons,List.map_nil,List.mem_append]
  rcases hx with h | h | h | h
  ·exact .inl h
  ·exact .inr (.inr (.inr (.inl h)))
  ·exact .inr (.inr (.inr (.inr (.inl h))))
  ·exact .inr (.inr (.inr (.inr (.inr (.inl h)))))
 match hcs:cs.toList,hl with
 | [v0,v1,v2,v3,v4,v5],_ =>
  rw [hcs] at h0 h1 h2 h3 h4 h5
  have hcs':cs = #[v0,v1,v2,v3,v4,v5]:=Array.toList_inj.1 hcs
  obtain ⟨r,e0,hy0,w0⟩:=DataW.trod_string Tryz.underlying9 h0
  obtain ⟨dd,e1,hy1,w1⟩:=DataW.trod_int Tryz.underlying3 h1
  obtain ⟨yy,e2,hy2,w2⟩:=DataW.trod_int Tryz.underlying3 h2
  simp at e0 e1 e2
  subst e0 e1 e2
  obtain ⟨A3,n3,c3,L3,rfl,l3,k3,m3,p3,q3⟩:=rows_factS (⟨⟨#[]⟩,⟨#[]⟩,0⟩:Ans) (fun b off t => (w.cell? ⟨b,off,none⟩=some (.string t.field) ∧ w.cell? ⟨b,off+1,none⟩=some (.string t.text) ∧ w.cell? ⟨b,off+2,none⟩=some (.int .i64 t.num)) ∧ AnsWide t ∧ t.field.size ≤ reachBytes ∧ t.text.size ≤ reachBytes) Tryz.underlying23 (show _=3 by kernel_rfl) (by decide) (fun a cs n y z1 z2 _ z3 => ans_rowS z1 z2 z3) h3 (fun p hp => hlt p (by simp [hp])) (fun x hx => hpart x (.inr (.inl hx)))
  obtain ⟨A5,n5,c5,L5,rfl,l5,k5,m5,p5,q5⟩:=rows_factS (⟨⟨#[]⟩,⟨#[]⟩⟩:Shw) (fun b off t => (w.cell? ⟨b,off,none⟩=some (.string t.field) ∧ w.cell? ⟨b,off+1,none⟩=some (.string t.role)) ∧ ShwWide t ∧ t.field.size ≤ reachBytes ∧ t.role.size ≤ reachBytes) Tryz.underlying27 (show _=2 by kernel_rfl) (by decide) (fun a cs n y z1 z2 _ z3 => shw_rowS z1 z2 z3) h5 (fun p hp => hlt p (by simp [hp])) (fun x hx => hpart x (.inr (.inr (.inr hx))))
  obtain ⟨z4,m4',hx4,hl4,h4'⟩:=trod_struct1 Tryz.underlying26 h4
  rw [show Tryz.prog.cellsOf 24=1 by kernel_rfl] at h4'
  obtain ⟨A4,n4,c4,L4,e4,l4,k4,m4,p4,q4⟩:=rows_factS (⟨0,0,0,⟨#[]⟩,⟨#[]⟩,[]⟩:Trm) (fun b off t => TermAt w (· < w.heap.size) b off t ∧ TrmWide t ∧ t.field.size ≤ reachBytes ∧ t.text.size ≤ reachBytes) Tryz.underlying24 (show _=6 by kernel_rfl) (by decide) (fun a cs n y z1 z2 z4 z3 => term_factS z1 z2 z4 z3) (by simpa using h4') (fun p hp => hlt p (by simp [hx4,hp]))
   (fun x hx => hpart x (.inr (.inr (.inl (by rw [hx4]; unfold DataW.weights; rw [Tryz.underlying26]; simp only [DataW.weightsEach,List.map_cons,List.map_nil,List.mem_append]; exact .inl hx)))))
  subst e4
  refine ⟨⟨r,dd,yy,L3,L4,L5⟩,A3,n3,c3,A4,n4,c4,A5,n5,c5,hcs',⟨⟨A3,n3,c3,rfl,l3,k3,fun hn => ?_⟩,⟨A4,n4,c4,rfl,l4,k4,fun hn => ?_⟩,⟨A5,n5,c5,rfl,l5,k5,fun hn => ?_⟩⟩,⟨w0,w1,w2,by show L3.length ≤ _; omega,fun a ha => ?_,by show L5.length ≤ _; omega,fun a ha => ?_,by show L4.length ≤ _; omega,fun t ht => ?_⟩,⟨?_,fun a ha => ?_,fun a ha => ?_,fun t ht => ?_⟩⟩
  ·obtain ⟨b,off,hA,hb,hh⟩:=p3 hn
   exact ⟨b,off,hA,hb,fun k hk => (hh k hk).1⟩
  ·obtain ⟨b,off,hA,hb,hh⟩:=p4 hn
   exact ⟨b,off,hA,hb,fun k hk => (hh k hk).1⟩
  ·obtain ⟨b,off,hA,hb,hh⟩:=p5 hn
   exact ⟨b,off,hA,hb,fun k hk => (hh k hk).1⟩
  ·obtain ⟨b,off,hh⟩:=q3 a ha
   exact hh.2.1
  ·obtain ⟨b,off,hh⟩:=q5 a ha
   exact hh.2.1
  ·obtain ⟨b,off,hh⟩:=q4 t ht
   exact hh.2.1
  ·exact hpart r.data.toList.length (.inl (by rw [hy0]; simp [DataW.weights]))
  ·obtain ⟨b,off,hh⟩:=q3 a ha
   exact hh.2.2
  ·obtain ⟨b,off,hh⟩:=q5 a ha
   exact hh.2.2
  ·obtain ⟨b,off,hh⟩:=q4 t ht
   exact hh.2.2
end
end Go.Proofs.YtgdngfdeeadlnaaGreatDoor
namespace Go.Proofs.YtgdngfdeeadlnaaGreatDoor
open Go.RowKit Num
def SameE (La Lb : List Trm) (w : World) (e : Ending) (w' : World) : Prop := ∃ b : Bool,e = .returned (.bool b) ∧ (b = true ↔ La = Lb) ∧ Below w.heap.size w w'
theorem trms_eq {La Lb : List Trm} (hl : La.length = Lb.length) (h : ∀ q,q < La.length → trmAt La q = trmAt Lb q) : La = Lb := by
 apply List.ext_getElem hl
 intro i h1 h2
 have:=h i h1
 unfold trmAt at this
 rwa [List.getD_eq_getElem?_getD,List.getD_eq_getElem?_getD,List.getElem?_eq_getElem h1,List.getElem?_eq_getElem h2] at this
theorem ints_eq {xs ys : List Int} (hl : xs.length = ys.length) (h : ∀ q,q < xs.length → xs.getD q 0 = ys.getD q 0) : xs = ys := by
 apply List.ext_getElem hl
 intro i h1 h2
 have:=h i h1
 rwa [List.getD_eq_getElem?_getD,List.getD_eq_getElem?_getD,List.getElem?_eq_getElem h1,List.getElem?_eq_getElem h2] at this
theorem trmAt_mem {L : List Trm} {k : Nat} (h : k < L.length) : trmAt L k ∈ L := by
 unfold trmAt; rw [List.getD_eq_getElem?_getD,List.getElem?_eq_getElem h]; exact List.getElem_mem h
set_option maxRecDepth 100000 in
set_option maxHeartbeats 4000000 in
theorem r_SameC (va vb : Value) (La Lb : List Trm) (w : World) (ha : TermsAt w (· < w.heap.size) va La) (hb : TermsAt w (· < w.heap.size) vb Lb) (hla : La.length ≤ 1000000) (hlb : Lb.length ≤ 1000000)
  (hka:∀ t ∈ La,t.args.length ≤ 1000000) (hkb:∀ t ∈ Lb,t.args.length ≤ 1000000) :
  Calls Tryz.prog 35 #[.agg #[va],.agg #[vb]] w (SameE La Lb w):=by
 obtain ⟨A,n,c,rfl,hn,hnc,hA⟩:=ha
 obtain ⟨B,m,k,rfl,hm,hmk,hB⟩:=hb
 have n1:n ≤ 1000000:=by omega
 have m1:m ≤ 1000000:=by omega
 have hb0:Below w.heap.size w ((w.alloc (.cells #[.slice A n c] 26)).alloc (.cells #[.slice B m k] 26)):=((Below.refl _ _).alloc (Nat.le_refl _) _).alloc (by simp) _
 have HB0:=Lib.hid hb0
 have HN:=Lib.hid hn
 have HM:=Lib.hid hm
 have HA:=Lib.hid hA
 have HB:=Lib.hid hB
 have HKA:=Lib.hid hka
 have HKB:=Lib.hid hkb
 clear hb0 hn hm hA hB hka hkb hla hlb
 by_cases hnm:n=m
 ·have t0:((n:Int) != (m:Int))=false:=by simp; omega
  have HNM:=Lib.hid hnm
  clear hnm
  have hbA:Blk ((w.alloc (.cells #[.slice A n c] 26)).alloc (.cells #[.slice B m k] 26)) w.heap.size 26 #[.slice A n c]:=(Blk.new w _ _).alloc _
  have hbB:Blk ((w.alloc (.cells #[.slice A n c] 26)).alloc (.cells #[.slice B m k] 26)) (w.heap.size+1) 26 #[.slice B m k]:=by
   have:=Blk.new (w.alloc (.cells #[.slice A n c] 26)) 26 #[.slice B m k]
   rwa [World.size_alloc] at this
  have HBB:=Lib.hid hbB
  clear hbA hbB
  go_enter Tryz.func35,Tryz.ntmps35
  go_wp2_with fail
  generalize hw0:(w.alloc (.cells #[.slice A n c] 26)).alloc (.cells #[.slice B m k] 26)=w0 at *
  have hs0:w0.heap.size=w.heap.size+2:=by rw [← hw0]; simp
  have HS0:=Lib.hid hs0
  clear hw0 hs0
  go_loopw [5,6,7,8,9,20] (fun v5 v6 v7 v8 v9 v20 wr => ∃ i:Nat,i ≤ n ∧ v20=.int .i64 (i:Int) ∧ (∀ q,q < i → trmAt La q=trmAt Lb q) ∧ Below (w.heap.size+2) w0 wr) (fun _ _ _ _ _ v20 _ => n - (intOf v20).toNat)
  case atStart => exact ⟨0,by omega,rfl,(fun q hq => absurd hq (by omega)),Below.refl _ _⟩
  case round =>
   obtain ⟨i,hi,rfl,hq,hbl⟩:=hrel
   rename World => wo
   have HQ:=Lib.hid hq
   have HBL:=Lib.hid hbl
   have hbw:Below w.heap.size w wo:=HB0.out.trans (hbl.mono (by omega))
   have hso:=hbl.size
   have hso2:w.heap.size+2 ≤ wo.heap.size:=by have:=HS0.out; omega
   have cB:=((HBB.out.below' hbl (by omega)).cell 0).trans (show _=some (Value.slice B m k) from rfl)
   have HBW:=Lib.hid hbw
   clear hq hbl hso hbw
   by_cases hlt:i < n
   ·obtain ⟨b,off,rfl,hbb,hc⟩:=HA.out (by omega)
    obtain ⟨b',off',rfl,hbb',hc'⟩:=HB.out (by have:=HNM.out; omega)
    have hta:=(hc i hlt).keep (S:=(· < w.heap.size)) (HBW.out.block b hbb) (fun g hg => HBW.out.block g hg)
    have htb:=(hc' i (by have:=HNM.out; omega)).keep (S:=(· < w.heap.size)) (HBW.out.block b' hbb') (fun g hg => HBW.out.block g hg)
    have hla:(trmAt La i).args.length ≤ 1000000:=HKA.out _ (trmAt_mem (by have:=HN.out; omega))
    have hlb:(trmAt Lb i).args.length ≤ 1000000:=HKB.out _ (trmAt_mem (by have:=HNM.out; have:=HM.out; omega))
    obtain ⟨ta,hta'⟩:∃ ta,trmAt La i=ta:=⟨_,rfl⟩
    obtain ⟨tb,htb'⟩:∃ tb,trmAt Lb i=tb:=⟨_,rfl⟩
    rw [hta'] at hta hla
    rw [htb'] at htb hlb
    obtain ⟨k1,n1',y1,f1,x1,a1⟩:=ta
    obtain ⟨k2,n2',y2,f2,x2,a2⟩:=tb
    obtain ⟨c0,c1,c2,c3,c4,u,c5,hu⟩:=hta
    obtain ⟨d0,d1,d2,d3,d4,u',d5,hu'⟩:=htb
    dsimp only at c0 c1 c2 c3 c4 d0 d1 d2 d3 d4 hu hu' hla hlb
    obtain ⟨A1,q1,e1,rfl,hq1,hqe1,hA1⟩:=hu
    obtain ⟨A2,q2,e2,rfl,hq2,hqe2,hA2⟩:=hu'
    have zi:(i:Int) < (n:Int):=by omega
    have zj:(i:Int) < (m:Int):=by have:=HNM.out; omega
    have hbl':b' < wo.heap.size:=by omega
    have D0:∀ o:Obj,(wo.alloc o).cell? ⟨b',off' + i*6,none⟩=some (.int .i64 k2):=fun o => (World.cell?_alloc_lt wo o ⟨b',off' + i*6,none⟩ hbl').trans d0
    have D1:∀ o:Obj,(wo.alloc o).cell? ⟨b',off' + i*6+1,none⟩=some (.int .i64 n2'):=fun o => (World.cell?_alloc_lt wo o ⟨b',off' + i*6+1,none⟩ hbl').trans d1
    have D2:∀ o:Obj,(wo.alloc o).cell? ⟨b',off' + i*6+2,none⟩=some (.int .i64 y2):=fun o => (World.cell?_alloc_lt wo o ⟨b',off' + i*6+2,none⟩ hbl').trans d2
    have D3:∀ o:Obj,(wo.alloc o).cell? ⟨b',off' + i*6+3,none⟩=some (.string f2):=fun o => (World.cell?_alloc_lt wo o ⟨b',off' + i*6+3,none⟩ hbl').trans d3
    have D4:∀ o:Obj,(wo.alloc o).cell? ⟨b',off' + i*6+4,none⟩=some (.string x2):=fun o => (World.cell?_alloc_lt wo o ⟨b',off' + i*6+4,none⟩ hbl').trans d4
    have D5:∀ o:Obj,(wo.alloc o).cell? ⟨b',off' + i*6+5,none⟩=some (.slice A2 q2 e2):=fun o => (World.cell?_alloc_lt wo o ⟨b',off' + i*6+5,none⟩ hbl').trans d5
    have CB:∀ o:Obj,(wo.alloc o).cell? ⟨w.heap.size+1,0,none⟩=some (.slice (some ⟨b',off',none⟩) m k):=fun o => (World.cell?_alloc_lt wo o ⟨w.heap.size+1,0,none⟩ (by show w.heap.size+1 < _; omega)).trans cB
    have HTA:=Lib.hid hta'
    have HTB:=Lib.hid htb'
    have q1m:q1 ≤ 1000000:=by omega
    have q2m:q2 ≤ 1000000:=by omega
    have HQ1:=Lib.hid hq1
    have HQ2:=Lib.hid hq2
    have HA1:=Lib.hid hA1
    have HA2:=Lib.hid hA2
    clear hta' htb' hq1 hq2 hA1 hA2 hc hc' cB d0 d1 d2 d3 d4 d5
    go_upto_region 7 with fail
    have hx1:Blk ((wo.alloc (.cells #[.int .i64 k1,.int .i64 n1',.int .i64 y1,.string f1,.string x1,.slice A1 q1 e1] 75)).alloc (.cells #[.int .i64 k2,.int .i64 n2',.int .i64 y2,.string f2,.string x2,.slice A2 q2 e2] 75)) wo.heap.size 75 #[.int .i64 k1,.int .i64 n1',.int .i64 y1,.string f1,.string x1,.slice A1 q1 e1]:=(Blk.new wo _ _).alloc _
    have hx2:Blk ((wo.alloc (.cells #[.int .i64 k1,.int .i64 n1',.int .i64 y1,.string f1,.string x1,.slice A1 q1 e1] 75)).alloc (.cells #[.int .i64 k2,.int .i64 n2',.int .i64 y2,.string f2,.string x2,.slice A2 q2 e2] 75)) (wo.heap.size+1) 75 #[.int .i64 k2,.int .i64 n2',.int .i64 y2,.string f2,.string x2,.slice A2 q2 e2]:=by
     have:=Blk.new (wo.alloc (.cells #[.int .i64 k1,.int .i64 n1',.int .i64 y1,.string f1,.string x1,.slice A1 q1 e1] 75)) 75 #[.int .i64 k2,.int .i64 n2',.int .i64 y2,.string f2,.string x2,.slice A2 q2 e2]
     rwa [World.size_alloc] at this
    have hbx:Below wo.heap.size wo ((wo.alloc (.cells #[.int .i64 k1,.int .i64 n1',.int .i64 y1,.string f1,.string x1,.slice A1 q1 e1] 75)).alloc (.cells #[.int .i64 k2,.int .i64 n2',.int .i64 y2,.string f2,.string x2,.slice A2 q2 e2] 75)):=((Below.refl _ _).alloc (Nat.le_refl _) _).alloc (by simp) _
    obtain ⟨wx,hwx⟩:∃ wx,(wo.alloc (.cells #[.int .i64 k1,.int .i64 n1',.int .i64 y1,.string f1,.string x1,.slice A1 q1 e1] 75)).alloc (.cells #[.int .i64 k2,.int .i64 n2',.int .i64 y2,.string f2,.string x2,.slice A2 q2 e2] 75)=wx:=⟨_,rfl⟩
    rw [hwx] at hx1 hx2 hbx ⊢
    clear hwx D0 D1 D2 D3 D4 D5 CB c0 c1 c2 c3 c4 c5
    have X0:=(hx1.cell 0).trans (show _=some (Value.int .i64 k1) from rfl)
    have Y0:=(hx2.cell 0).trans (show _=some (Value.int .i64 k2) from rfl)
    have X1:=(hx1.cell 1).trans (show _=some (Value.int .i64 n1') from rfl)
    have Y1:=(hx2.cell 1).trans (show _=some (Value.int .i64 n2') from rfl)
    have X2:=(hx1.cell 2).trans (show _=some (Value.int .i64 y1) from rfl)
    have Y2:=(hx2.cell 2).trans (show _=some (Value.int .i64 y2) from rfl)
    have X3:=(hx1.cell 3).trans (show _=some (Value.string f1) from rfl)
    have Y3:=(hx2.cell 3).trans (show _=some (Value.string f2) from rfl)
    have X4:=(hx1.cell 4).trans (show _=some (Value.string x1) from rfl)
    have Y4:=(hx2.cell 4).trans (show _=some (Value.string x2) from rfl)
    have X5:=(hx1.cell 5).trans (show _=some (Value.slice A1 q1 e1) from rfl)
    have Y5:=(hx2.cell 5).trans (show _=some (Value.slice A2 q2 e2) from rfl)
    have HX:=Lib.hid (HBW.out.trans (hbx.mono (by omega)))
    have HX2:=Lib.hid (HBL.out.trans (hbx.mono (by omega)))
    have HXO:=Lib.hid hbx
    clear hx1 hx2 hbx
    by_cases e1:k1=k2
    ·have g1:(k1 != k2)=false:=by simp [e1]
     have He1:=Lib.hid e1
     clear e1
     by_cases e2:n1'=n2'
     ·have g2:(n1' != n2')=false:=by simp [e2]
      have He2:=Lib.hid e2
      clear e2
      by_cases e3:y1=y2
      ·have g3:(y1 != y2)=false:=by simp [e3]
       have He3:=Lib.hid e3
       clear e3
       by_cases e4:f1=f2
       ·have g4:(f1.toList == f2.toList)=true:=seq_true e4
        have He4:=Lib.hid e4
        clear e4
        by_cases e5:x1=x2
        ·have g5:(x1.toList == x2.toList)=true:=seq_true e5
         have He5:=Lib.hid e5
         clear e5
         by_cases e6:q1=q2
         ·have g6:((q1:Int) != (q2:Int))=false:=by simp; omega
          have He6:=Lib.hid e6
          clear e6
          go_wp2_with fail
          go_loopw [8,9,75] (fun v8 v9 v75 wq => ∃ j:Nat,j ≤ q1 ∧ v75=.int .i64 (j:Int) ∧ (∀ q,q < j → a1.getD q 0=a2.getD q 0) ∧ wx=wq) (fun _ _ v75 _ => q1 - (intOf v75).toNat)
          case atStart => exact ⟨0,by omega,rfl,(fun q hq => absurd hq (by omega)),rfl⟩
          case round =>
           obtain ⟨j,hj,rfl,hq,rfl⟩:=hrel
           have HJ:=Lib.hid hq
           clear hq
           by_cases hjl:j < q1
           ·obtain ⟨p,o,rfl,hp,hcp⟩:=HA1.out (by omega)
            obtain ⟨p',o',rfl,hp',hcp'⟩:=HA2.out (by have:=He6.out; omega)
            have r0:wx.cell? ⟨p,o+j,none⟩=_:=(HXO.out.cell (p:=⟨p,o+j,none⟩) (by have hp2:p < w.heap.size:=hp; show p < _; omega)).trans (hcp j hjl)
            have r1:wx.cell? ⟨p',o' + j,none⟩=_:=(HXO.out.cell (p:=⟨p',o' + j,none⟩) (by have hp2:p' < w.heap.size:=hp'; show p' < _; omega)).trans (hcp' j (by have:=He6.out; omega))
            have s0:(j:Int) < (q1:Int):=by omega
            have s1:(j:Int) < (q2:Int):=by have:=He6.out; omega
            obtain ⟨x,hx⟩:∃ x,a1.getD j 0=x:=⟨_,rfl⟩
            obtain ⟨y,hy⟩:∃ y,a2.getD j 0=y:=⟨_,rfl⟩
            rw [hx] at r0
            rw [hy] at r1
            have HXX:=Lib.hid hx
            have HYY:=Lib.hid hy
            clear hx hy hcp hcp'
            by_cases hxy:x=y
            ·have t1:((y:Int) != x)=false:=by simp [hxy]
             have HXY:=Lib.hid hxy
             clear hxy
             go_wp2_with fail
             go_roundw
             case measure => simp [intOf]; omega
             case rel => exact ⟨j+1,by omega,by go_num,(fun q hq => by
              rcases Nat.lt_or_ge q j with h | h
              ·exact HJ.out q h
              ·have:q=j:=by omega
               subst this; rw [HXX.out,HYY.out]; exact HXY.out),by first | rfl | trivial⟩
            ·have t1:((y:Int) != x)=true:=by rw [bne_iff_ne]; exact fun h => hxy h.symm
             go_wp2_with fail
             go_ret
             refine ⟨false,rfl,iff_of_false (by simp) (fun e => ?_),HX.out⟩
             have h9:=(HTA.out.symm.trans (congrArg (fun L => trmAt L i) e)).trans HTB.out
             injection h9 with j1 j2 j3 j4 j5 j6
             exact hxy (by rw [← HXX.out,← HYY.out,j6])
           ·have hjk:j=q1:=by omega
            have s0:¬ (j:Int) < (q1:Int):=by omega
            have HJK:=Lib.hid hjk
            clear hjk
            go_wp2_with fail
            go_roundw
            case measure => simp [intOf]; omega
            case rel =>
             refine ⟨i+1,by omega,by go_num,(fun q hq => ?_),HX2.out⟩
             rcases Nat.lt_or_ge q i with h | h
             ·exact HQ.out q h
             ·have:q=i:=by omega
              subst this
              rw [HTA.out,HTB.out,He1.out,He2.out,He3.out,He4.out,He5.out,ints_eq (xs:=a1) (ys:=a2) (by rw [← HQ1.out,← HQ2.out]; exact He6.out) (fun q hq => HJ.out q (by rw [HJK.out,HQ1.out]; exact hq))]
         ·have g6:((q1:Int) != (q2:Int))=true:=by rw [bne_iff_ne]; omega
          go_wp2_with fail
          go_ret
          refine ⟨false,rfl,iff_of_false (by simp) (fun e => ?_),HX.out⟩
          have h9:=(HTA.out.symm.trans (congrArg (fun L => trmAt L i) e)).trans HTB.out
          injection h9 with j1 j2 j3 j4 j5 j6
          exact e6 (by rw [HQ1.out,HQ2.out,j6])
        ·have g5:(x1.toList == x2.toList)=false:=seq_false (fun h => e5 (blOf_inj h))
         go_wp2_with fail
         go_ret
         refine ⟨false,rfl,iff_of_false (by simp) (fun e => ?_),HX.out⟩
         have h9:=(HTA.out.symm.trans (congrArg (fun L => trmAt L i) e)).trans HTB.out
         injection h9 with j1 j2 j3 j4 j5 j6
         exact e5 j5
       ·have g4:(f1.toList == f2.toList)=false:=seq_false (fun h => e4 (blOf_inj h))
        go_wp2_with fail
        go_ret
        refine ⟨false,rfl,iff_of_false (by simp) (fun e => ?_),HX.out⟩
        have h9:=(HTA.out.symm.trans (congrArg (fun L => trmAt L i) e)).trans HTB.out
        injection h9 with j1 j2 j3 j4 j5 j6
        exact e4 j4
      ·have g3:(y1 != y2)=true:=by rw [bne_iff_ne]; exact e3
       go_wp2_with fail
       go_ret
       refine ⟨false,rfl,iff_of_false (by simp) (fun e => ?_),HX.out⟩
       have h9:=(HTA.out.symm.trans (congrArg (fun L => trmAt L i) e)).trans HTB.out
       injection h9 with j1 j2 j3 j4 j5 j6
       exact e3 j3
     ·have g2:(n1' != n2')=true:=by rw [bne_iff_ne]; exact e2
      go_wp2_with fail
      go_ret
      refine ⟨false,rfl,iff_of_false (by simp) (fun e => ?_),HX.out⟩
      have h9:=(HTA.out.symm.trans (congrArg (fun L => trmAt L i) e)).trans HTB.out
      injection h9 with j1 j2 j3 j4 j5 j6
      exact e2 j2
    ·have g1:(k1 != k2)=true:=by rw [bne_iff_ne]; exact e1
     go_wp2_with fail
     go_ret
     refine ⟨false,rfl,iff_of_false (by simp) (fun e => ?_),HX.out⟩
     have h9:=(HTA.out.symm.trans (congrArg (fun L => trmAt L i) e)).trans HTB.out
     injection h9 with j1 j2 j3 j4 j5 j6
     exact e1 j1
   ·have hin:i=n:=by omega
    have s0:¬ (i:Int) < (n:Int):=by omega
    have HIN:=Lib.hid hin
    clear hin
    go_wp2_with fail
    go_ret
    exact ⟨true,rfl,iff_of_true rfl (trms_eq (by rw [← HN.out,← HM.out]; exact HNM.out) (fun q hq => HQ.out q (by rw [HIN.out,HN.out]; exact hq))),HBW.out⟩
 ·have t0:((n:Int) != (m:Int))=true:=by rw [bne_iff_ne]; omega
  go_enter Tryz.func35,Tryz.ntmps35
  go_wp2_with fail
  go_ret
  exact ⟨false,rfl,iff_of_false (by simp) (fun e => hnm (by rw [HN.out,HM.out,e])),HB0.out⟩
end Go.Proofs.YtgdngfdeeadlnaaGreatDoor

/- Words for memory: what the kit's OddCondition keeps while it changes a copy of a list of t And more. -/
import Derived.Test.YtgdngfdeeadlnaaGreatDoorY32
import Derived.Test.YtgdngfdeeadlnaaGreatDoorY09
import Derived.Test.YtgdngfdeeadlnaaGreatDoorY15
import Derived.ArgAppend
import Derived.Test.YtgdngfdeeadlnaaGreatDoorY19
import Derived.Test.YtgdngfdeeadlnaaGreatDoorY37
import Derived.Deep.AppendLies
import Derived.Deep.RegionLaw
set_option linter.unusedVariables false
set_option linter.unusedSimpArgs false
namespace Go.Proofs.YtgdngfdeeadlnaaGreatDoor
open Go.RowKit Num
def TrmB (K : Nat) (t : Trm) : Prop := t.field.size ≤ K ∧ t.text.size ≤ K ∧ t.args.length ≤ K
def OddE (w : World) (S : Nat → Prop) (db N K : Nat) (e : Ending) (w' : World) : Prop := ∃ A n c L,e = .returned (.agg #[.slice A n c]) ∧ TermsAt w' (fun b => (S b ∨ w.heap.size ≤ b) ∧ b < w'.heap.size) (.slice A n c) L ∧ L.length ≤ N + 1 ∧ (∀ t ∈ L,TrmB K t) ∧ Dc w' db ∧ w.grownBy w' (some db)
theorem odd_end {w W : World} {S : Nat → Prop} {db rb N K : Nat} {A : Option Addr} {n c : Nat} {L' : List Trm} (hT : TermsAt W (fun q => (S q ∨ w.heap.size ≤ q) ∧ q ≠ rb ∧ q < W.heap.size) (.slice A n c) L') (hl : L'.length ≤ N + 1) (hok : ∀ t ∈ L',TrmB K t) (hd : Dc W db) (hg : w.grownBy W (some db)) (hrb : w.heap.size ≤ rb) (hdb : db < rb) (v' : Value) :
  OddE w S db N K (.returned (.agg #[.slice A n c])) (W.setCell ⟨rb,0,none⟩ v'):=by
 have hc:Chg W (W.setCell ⟨rb,0,none⟩ v') (fun q => q=rb):=Chg.setCell (Chg.refl W (fun q => q=rb)) ⟨rb,0,none⟩ (fun _ => rfl) v'
 refine ⟨A,n,c,L',rfl,(hT.keep fun q hq => hc.block q hq.2.2 hq.2.1).mono fun q hq => ⟨hq.1,Nat.lt_of_lt_of_le hq.2.2 hc.size⟩,hl,hok,hd.keep fun i hi => hc.block i (by have:=hd.lt; omega) (by omega),?_⟩
 exact ⟨hc.os.trans hg.os,hc.tape.trans hg.tape,hc.output.trans hg.output,Nat.le_trans hg.size hc.size,fun k hk hne => (hc.block k (Nat.lt_of_lt_of_le hk hg.size) (by omega)).trans (hg.block k hk hne)⟩
theorem OwnTr.termsG {w : World} {B g cap : Nat} {S : Nat → Prop} {L : List Trm} {us : Nat → Value} (h : OwnTr w B S (.slice (some ⟨g,0,none⟩) L.length cap) L us) : TermsAt w (fun b => S b ∨ b = g) (.slice (some ⟨g,0,none⟩) L.length cap) L := by
 have hnc:L.length ≤ cap:=by
  rcases h.row.2 with ⟨h1,_⟩ | ⟨g',cap',cur,h1,_,_,h2,_⟩
  ·cases h1
  ·injection h1 with _ _ h1; omega
 refine ⟨some ⟨g,0,none⟩,L.length,cap,rfl,rfl,hnc,fun _ => ⟨g,0,rfl,.inr rfl,fun k hk => ?_⟩⟩
 have hc:∀ i u,i < 6 → (tmCell (trmAt L k) (us k)).getD i undef=u → w.cell? ⟨g,0+k*6+i,none⟩=some u:=by
  intro i u hi hu
  rw [Nat.zero_add]
  exact own_cell h.row (k*6+i) u (by rw [tmsC_at L us k i hk hi,hu])
 exact ⟨hc 0 _ (by decide) rfl,hc 1 _ (by decide) rfl,hc 2 _ (by decide) rfl,hc 3 _ (by decide) rfl,hc 4 _ (by decide) rfl,us k,hc 5 _ (by decide) rfl,(h.args k hk).mono fun b hb => .inl hb⟩
theorem terms_tail {w : World} {S : Nat → Prop} {g n cap : Nat} {L : List Trm} (h : TermsAt w S (.slice (some ⟨g,0,none⟩) n cap) L) (h1 : 1 ≤ n) : TermsAt w S (.slice (subA (some ⟨g,0,none⟩) cap 1 6) (n - 1) (cap - 1)) L.tail := by
 obtain ⟨A,n',c',he,hn,hnc,h4⟩:=h
 injection he with e1 e2 e3
 subst e2 e3
 refine ⟨_,n - 1,cap - 1,rfl,by rw [List.length_tail]; omega,by omega,fun hn0 => ?_⟩
 obtain ⟨b,off,hA,hS,hc⟩:=h4 (by omega)
 rw [← e1] at hA
 injection hA with hA; injection hA with a1 a2
 subst a1 a2
 refine ⟨g,6,?_,hS,fun k hk => ?_⟩
 ·unfold subA
  rw [if_neg (by omega)]
  rfl
 ·have:=hc (k+1) (by omega)
  have e:trmAt L.tail k=trmAt L (k+1):=by unfold trmAt; rw [List.getD_eq_getElem?_getD,List.getD_eq_getElem?_getD,List.getElem?_tail]
  rw [e,show 6+k*6=0+(k+1)*6 by omega]
  exact this
structure OdS (w W : World) (S : Nat → Prop) (db cb g n cap : Nat) (L : List Trm) (us : Nat → Value) : Prop where
  sin : ∀ q, S q → q ≠ db ∧ q < w.heap.size
  len : n = L.length
  one : 1 ≤ n
  dc : Dc W db
  own : OwnTr W (w.heap.size + 2) S (.slice (some ⟨g, 0, none⟩) L.length cap) L us
  res : Blk W (w.heap.size + 1) 26 #[.slice none 0 0]
  cnd : Blk W cb 26 #[.slice (some ⟨g, 0, none⟩) n cap]
  gw : w.grownBy W (some db)
  dlt : db < w.heap.size
  glt : w.heap.size + 2 ≤ g
  clt : g < cb
section
variable {w W W' : World} {S : Nat → Prop} {db cb g n cap K : Nat} {L : List Trm} {us : Nat → Value} {T : Nat → Prop}
theorem OdS.keep (h : OdS w W S db cb g n cap L us) (hd : Dc W' db) (hc : Chg W W' T) (hT : ∀ i,i < W.heap.size → T i → i = db) : OdS w W' S db cb g n cap L us := by
 have h1:=h.dlt
 have h2:=h.glt
 have h3:=h.clt
 have hs:=h.gw.size
 have kb:∀ q,q < W.heap.size → q ≠ db → W'.heap[q]?=W.heap[q]?:=fun q hq hne => hc.block q hq (fun e => hne (hT q hq e))
 have hl:=h.len
 have ho:=h.one
 have hgl:g < W.heap.size:=Nat.lt_trans h3 h.cnd.lt
 exact ⟨h.sin,hl,ho,hd,⟨hc.own h.own.row (fun q hq e => by have hq':g=q:=Option.some.inj hq; have:=hT q (by omega) e; omega),fun k hk => (h.own.args k hk).keep fun q hq => kb q (by have:=(h.sin q hq).2; omega) (h.sin q hq).1⟩,(kb _ h.res.lt (by omega)).trans h.res,(kb _ h.cnd.lt (by omega)).trans h.cnd,
  ⟨hc.os.trans h.gw.os,hc.tape.trans h.gw.tape,hc.output.trans h.gw.output,Nat.le_trans hs hc.size,fun q hq hne => (kb q (by omega) (fun e => hne (by rw [e]))).trans (h.gw.block q hq hne)⟩,h1,h2,h3⟩
theorem OdS.dice (h : OdS w W S db cb g n cap L us) (hd : Dc W' db) (hg : W.grownBy W' (some db)) : OdS w W' S db cb g n cap L us :=
 h.keep (T:=fun i => i=db) hd (Chg.of_grown hg (fun g hg _ => by cases hg; rfl)) (fun _ _ e => e)
theorem OdS.alloc (h : OdS w W S db cb g n cap L us) (o : Obj) : OdS w (W.alloc o) S db cb g n cap L us := h.keep (T := fun _ => False) (h.dc.alloc o) ((Chg.refl W _).alloc o) (fun _ _ e => e.elim)
theorem OdS.cc (h : OdS w W S db cb g n cap L us) : W.cell? ⟨cb,0,none⟩ = some (.slice (some ⟨g,0,none⟩) n cap) := h.cnd.cell 0
theorem OdS.glw (h : OdS w W S db cb g n cap L us) : g < W.heap.size := Nat.lt_trans h.clt h.cnd.lt
theorem ok_set {K : Nat} {L : List Trm} {k : Nat} {t' : Trm} (hok : ∀ t ∈ L,TrmB K t) (ht : TrmB K t') : ∀ t ∈ L.set k t',TrmB K t := fun t hm => by
 rcases List.mem_or_eq_of_mem_set hm with e | e
 ·exact hok t e
 ·rw [e]; exact ht
theorem OdS.stored (h : OdS w W S db cb g n cap L us) {k i : Nat} (hk : k < n) (hi : i < 6) (t' : Trm) (u' v : Value) (e : (tmCell (trmAt L k) (us k)).set i v = tmCell t' u')
  (hu:IntsAt W (fun q => (S q ∨ w.heap.size ≤ q) ∧ q ≠ db ∧ q ≠ w.heap.size+1 ∧ q ≠ g ∧ q < W.heap.size) u' t'.args) (ok:TrmB K t') (hok:∀ t ∈ L,TrmB K t) (v':Value) :
  OddE w S db n K (.returned (.agg #[.slice (some ⟨g,0,none⟩) n cap])) ((W.setCell ⟨g,k*6+i,none⟩ v).setCell ⟨w.heap.size+1,0,none⟩ v'):=by
 have h1:=h.dlt
 have h2:=h.glt
 have h3:=h.clt
 have hs:=h.gw.size
 have hl:=h.len
 have hgw:=h.glw
 have hgr:w.heap.size+1 < W.heap.size:=h.res.lt
 obtain ⟨o1,o2⟩:=(h.own.mono (T:=fun q => (S q ∨ w.heap.size ≤ q) ∧ q ≠ db ∧ q ≠ w.heap.size+1 ∧ q ≠ g ∧ q < W.heap.size) (fun q hq => ⟨.inl hq,(h.sin q hq).1,by have:=(h.sin q hq).2; omega,by have:=(h.sin q hq).2; omega,by have:=(h.sin q hq).2; omega⟩)).store (by omega) hi t' u' v e hu (fun q hq => ⟨hq.2.2.2.2,hq.2.2.2.1⟩)
 rw [show L.length=(L.set k t').length by rw [List.length_set]] at o1
 have hT:=o1.termsG
 rw [List.length_set,← hl] at hT
 have hsz:=o2.size
 refine odd_end (hT.mono fun q hq => ?_) (by rw [List.length_set]; omega) (ok_set hok ok) (h.dc.keep fun q hq => o2.block q (by have:=h.dc.lt; omega) (fun e => by injection e; omega)) ?_ (by omega) (by omega) v'
 ·rcases hq with ⟨a,_,b,c,d⟩ | a
  ·exact ⟨a,b,by omega⟩
  ·exact ⟨.inr (by omega),by omega,by omega⟩
 ·exact ⟨o2.os.trans h.gw.os,o2.tape.trans h.gw.tape,o2.output.trans h.gw.output,by omega,fun q hq hne => (o2.block q (by omega) (fun e => by injection e; omega)).trans (h.gw.block q hq hne)⟩
theorem OdS.cut (h : OdS w W S db cb g n cap L us) (hok : ∀ t ∈ L,TrmB K t) (x v' : Value) :
  OddE w S db n K (.returned (.agg #[.slice (subA (some ⟨g,0,none⟩) cap 1 6) (n - 1) (cap - 1)])) ((W.setCell ⟨cb,0,none⟩ x).setCell ⟨w.heap.size+1,0,none⟩ v'):=by
 have h1:=h.dlt
 have h2:=h.glt
 have h3:=h.clt
 have hs:=h.gw.size
 have hl:=h.len
 have ho:=h.one
 have hgw:=h.glw
 have hT:=h.own.termsG
 rw [← hl] at hT
 have hc:Chg W (W.setCell ⟨cb,0,none⟩ x) (fun q => q=cb):=chg_set W cb 0 x
 have hsz:=hc.size
 have hT2:=terms_tail hT ho
 have hT3:TermsAt (W.setCell ⟨cb,0,none⟩ x) (fun b => S b ∨ b=g) (.slice (subA (some ⟨g,0,none⟩) cap 1 6) (n - 1) (cap - 1)) L.tail:=hT2.keep fun q hq => (by
  have hq':q ≤ g ∧ q ≠ cb:=by
   rcases hq with a | a
   ·have:=h.sin q a; omega
   ·omega
  exact hc.block q (by omega) (by omega))
 refine odd_end (hT3.mono fun q hq => ?_) (by rw [List.length_tail]; omega) (fun t ht => hok t (List.mem_of_mem_tail ht)) (h.dc.keep fun q hq => hc.block q (by have:=h.dc.lt; omega) (by omega)) ?_ (by omega) (by omega) v'
 ·rcases hq with a | a
  ·have:=h.sin q a
   exact ⟨.inl a,by omega,by omega⟩
  ·exact ⟨.inr (by omega),by omega,by omega⟩
 ·exact ⟨hc.os.trans h.gw.os,hc.tape.trans h.gw.tape,hc.output.trans h.gw.output,by omega,fun q hq hne => (hc.block q (by omega) (by omega)).trans (h.gw.block q hq hne)⟩
end
theorem TrmB.mono {K K' : Nat} {t : Trm} (h : TrmB K t) (hk : K ≤ K') : TrmB K' t := ⟨Nat.le_trans h.1 hk,Nat.le_trans h.2.1 hk,Nat.le_trans h.2.2 hk⟩
structure StmB (K : Nat) (s : Stm) : Prop where
  resp : s.resp.size ≤ K
  dep : In64' s.dep
  day : In64' s.day
  an : s.ans.length ≤ K
  ans : ∀ a ∈ s.ans, a.field.size ≤ K ∧ a.text.size ≤ K ∧ In64' a.num
  sn : s.shw.length ≤ K
  shw : ∀ a ∈ s.shw, a.field.size ≤ K ∧ a.role.size ≤ K
  cn : s.cond.length ≤ K
  cond : ∀ t ∈ s.cond, TrmB K t
theorem StmB.mono {K K' : Nat} {s : Stm} (h : StmB K s) (hk : K ≤ K') : StmB K' s :=
 ⟨Nat.le_trans h.resp hk,h.dep,h.day,Nat.le_trans h.an hk,fun a ha => ⟨Nat.le_trans (h.ans a ha).1 hk,Nat.le_trans (h.ans a ha).2.1 hk,(h.ans a ha).2.2⟩,Nat.le_trans h.sn hk,fun a ha => ⟨Nat.le_trans (h.shw a ha).1 hk,Nat.le_trans (h.shw a ha).2 hk⟩,Nat.le_trans h.cn hk,fun t ht => (h.cond t ht).mono hk⟩
theorem StmB.ok {K : Nat} {s : Stm} (h : StmB K s) (hk : K ≤ 1000000) : StmOk s := by
 refine ⟨by have:=h.resp; omega,h.dep,h.day,by have:=h.an; omega,fun k hk => ?_,by have:=h.sn; omega,fun k hk => ?_,by have:=h.cn; omega,fun t ht => ?_⟩
 ·obtain ⟨a,b,c⟩:=h.ans _ (ansAt_mem hk)
  exact ⟨by omega,by omega,c⟩
 ·obtain ⟨a,b⟩:=h.shw _ (shwAt_mem hk)
  exact ⟨by omega,by omega⟩
 ·obtain ⟨a,b,c⟩:=h.cond t ht
  exact ⟨by omega,by omega,by omega⟩
theorem StmSm.b {s : Stm} (h : StmSm s) : StmB 1000 s := by
 refine ⟨h.resp,⟨by have:=h.dep; omega,by have:=h.dep; omega⟩,⟨by have:=h.day; omega,by have:=h.day; omega⟩,by have:=h.an; omega,fun a ha => ?_,by have:=h.sn; omega,fun a ha => ?_,h.cn,fun t ht => ?_⟩
 ·obtain ⟨a,b,c,d⟩:=h.ans a ha
  exact ⟨a,b,by omega,by omega⟩
 ·obtain ⟨a,b,-⟩:=h.shw a ha
  exact ⟨a,b⟩
 ·obtain ⟨a,b,_,_,c⟩:=h.cond t ht
  exact ⟨by omega,by omega,by omega⟩
def OStE (w : World) (S : Nat → Prop) (db K : Nat) (e : Ending) (w' : World) : Prop := ∃ s Aa na ca Ac nc cc As ns cs,e = .returned (.agg #[.string s.resp,.int .i64 s.dep,.int .i64 s.day,.slice Aa na ca,.slice Ac nc cc,.slice As ns cs]) ∧ StmAt w' (fun b => (S b ∨ w.heap.size ≤ b) ∧ b < w'.heap.size) (.slice Aa na ca) (.slice Ac nc cc) (.slice As ns cs) s ∧ StmB K s ∧ Dc w' db ∧ w.grownBy w' (some db)
structure OSt (w W : World) (S : Nat → Prop) (db K : Nat) (s : Stm) (va vc vs : Value) : Prop where
  sin : ∀ q, S q → q ≠ db ∧ q < w.heap.size
  dlt : db < w.heap.size
  dc : Dc W db
  blk : Blk W w.heap.size 29 #[.string s.resp, .int .i64 s.dep, .int .i64 s.day, va, vc, vs]
  res : Blk W (w.heap.size + 1) 29 stmZ
  oa : W.ownsRow (w.heap.size + 2) 50 3 va s.ans.length (ansC s.ans)
  os : W.ownsRow (w.heap.size + 2) 73 2 vs s.shw.length (shwC s.shw)
  cc : TermsAt W S vc s.cond
  gw : w.grownBy W (some db)
  sm : StmB K s
theorem ansC_set (L : List Ans) : ∀ (k : Nat) (a : Ans),k < L.length → a.field = (ansAt L k).field → ((ansC L).set (k * 3 + 1) (.string a.text)).set (k * 3 + 2) (.int .i64 a.num) = ansC (L.set k a) := by
 induction L with
 | nil => intro k a h; exact absurd h (Nat.not_lt_zero _)
 | cons b r ih =>
  intro k a h he
  cases k with
  | zero =>
   have he':a.field=b.field:=he
   show [Value.string b.field,.string a.text,.int .i64 a.num] ++ ansC r = [Value.string a.field,.string a.text,.int .i64 a.num] ++ ansC r
   rw [he']
  | succ k =>
   have:=ih k a (by simpa using h) he
   rw [show (k+1)*3+1=(k*3+1)+1+1+1 by omega,show (k+1)*3+2=(k*3+2)+1+1+1 by omega]
   show ((Value.string b.field :: Value.string b.text :: Value.int .i64 b.num :: ansC r).set (k*3+1+1+1+1) _).set (k*3+2+1+1+1) _=Value.string b.field :: Value.string b.text :: Value.int .i64 b.num :: ansC (r.set k a)
   rw [List.set_cons_succ,List.set_cons_succ,List.set_cons_succ,List.set_cons_succ,List.set_cons_succ,List.set_cons_succ,this]
theorem ost_fin {w W : World} {S T : Nat → Prop} {db K : Nat} {s : Stm} {va vc vs : Value} (hd : Dc W db) (hlt : db < w.heap.size) (hb : Blk W w.heap.size 29 #[.string s.resp,.int .i64 s.dep,.int .i64 s.day,va,vc,vs]) (hr : Blk W (w.heap.size + 1) 29 stmZ)
  (hS:StmAt W T va vc vs s) (hT:∀ q,T q → (S q ∨ w.heap.size ≤ q) ∧ q ≠ w.heap.size+1 ∧ q < W.heap.size) (hg:w.grownBy W (some db)) (hk:StmB K s) :
  ∃ Aa na ca Ac nc cc As ns cs,va=.slice Aa na ca ∧ vc=.slice Ac nc cc ∧ vs=.slice As ns cs ∧
  ∀ W2,W2=(((((W.setCell ⟨w.heap.size+1,0,none⟩ (.string s.resp)).setCell ⟨w.heap.size+1,1,none⟩ (.int .i64 s.dep)).setCell ⟨w.heap.size+1,2,none⟩ (.int .i64 s.day)).setCell ⟨w.heap.size+1,3,none⟩ va).setCell ⟨w.heap.size+1,4,none⟩ vc).setCell ⟨w.heap.size+1,5,none⟩ vs →
   OStE w S db K (.returned (.agg #[.string s.resp,.int .i64 s.dep,.int .i64 s.day,va,vc,vs])) W2 ∧ Blk W2 (w.heap.size+1) 29 #[.string s.resp,.int .i64 s.dep,.int .i64 s.day,va,vc,vs]:=by
 obtain ⟨Aa,na,ca,rfl,-⟩:=id hS.aa
 obtain ⟨As,ns,cs,rfl,-⟩:=id hS.ss
 obtain ⟨Ac,nc,cc,rfl,-⟩:=id hS.cc
 refine ⟨Aa,na,ca,Ac,nc,cc,As,ns,cs,rfl,rfl,rfl,fun W2 hW2 => ?_⟩
 have hc:Chg W W2 (fun q => q=w.heap.size+1):=by
  rw [hW2]
  exact Chg.setCell (Chg.setCell (Chg.setCell (Chg.setCell (Chg.setCell (Chg.setCell (Chg.refl W (fun q => q=w.heap.size+1)) ⟨w.heap.size+1,0,none⟩ (fun _ => rfl) _) ⟨w.heap.size+1,1,none⟩ (fun _ => rfl) _) ⟨w.heap.size+1,2,none⟩ (fun _ => rfl) _) ⟨w.heap.size+1,3,none⟩ (fun _ => rfl) _) ⟨w.heap.size+1,4,none⟩ (fun _ => rfl) _) ⟨w.heap.size+1,5,none⟩ (fun _ => rfl) _
 have hb2:Blk W2 (w.heap.size+1) 29 #[.string s.resp,.int .i64 s.dep,.int .i64 s.day,.slice Aa na ca,.slice Ac nc cc,.slice As ns cs]:=by
  rw [hW2]
  exact (((((hr.set_ 0 _).set_ 1 _).set_ 2 _).set_ 3 _).set_ 4 _).set_ 5 _
 have hs:=hc.size
 refine ⟨⟨s,Aa,na,ca,Ac,nc,cc,As,ns,cs,rfl,(hS.keep fun q hq => hc.block q (hT q hq).2.2 (hT q hq).2.1).mono fun q hq => ⟨(hT q hq).1,Nat.lt_of_lt_of_le (hT q hq).2.2 hs⟩,hk,hd.keep fun q hq => hc.block q (by have:=hd.lt; omega) (by omega),?_⟩,hb2⟩
 exact ⟨hc.os.trans hg.os,hc.tape.trans hg.tape,hc.output.trans hg.output,Nat.le_trans hg.size hs,fun q hq hne => (hc.block q (Nat.lt_of_lt_of_le hq hg.size) (by omega)).trans (hg.block q hq hne)⟩
section
variable {w W W' : World} {S : Nat → Prop} {db K : Nat} {s : Stm} {va vc vs : Value}
theorem OSt.keep (h : OSt w W S db K s va vc vs) (hd : Dc W' db) {row : Option Nat} (hg : W.grownBy W' row) (hr : ∀ q,row = some q → q = db) : OSt w W' S db K s va vc vs := by
 have h1:=h.dlt
 have l1:=h.blk.lt
 have l2:=h.res.lt
 have kb:∀ q,q < W.heap.size → q ≠ db → W'.heap[q]?=W.heap[q]?:=fun q hq hne => hg.block q hq (fun e => hne (hr q e.symm))
 have kr:∀ v:Value,(∀ g,v.ownBlock=some g → w.heap.size+2 ≤ g) → v.ownBlock=none ∨ v.ownBlock ≠ row:=fun v hv => by
  rcases hb:v.ownBlock with _ | q
  ·exact .inl rfl
  ·refine .inr fun e => ?_
   have e2:=hr q e.symm
   have:=hv q hb
   omega
 exact ⟨h.sin,h1,hd,(kb _ l1 (by omega)).trans h.blk,(kb _ l2 (by omega)).trans h.res,h.oa.kept hg (kr va fun g hg => (h.oa.lt g hg).1),h.os.kept hg (kr vs fun g hg => (h.os.lt g hg).1),h.cc.keep fun b hb => kb b (by have:=(h.sin b hb).2; omega) (h.sin b hb).1,
  ⟨hg.os.trans h.gw.os,hg.tape.trans h.gw.tape,hg.output.trans h.gw.output,Nat.le_trans h.gw.size hg.size,fun q hq hne => (kb q (by have:=h.gw.size; omega) (fun e => hne (by rw [e]))).trans (h.gw.block q hq hne)⟩,h.sm⟩
theorem OSt.dice (h : OSt w W S db K s va vc vs) (hd : Dc W' db) (hg : W.grownBy W' (some db)) : OSt w W' S db K s va vc vs := h.keep hd hg (fun q hq => (Option.some.inj hq).symm)
theorem OSt.alloc (h : OSt w W S db K s va vc vs) (o : Obj) : OSt w (W.alloc o) S db K s va vc vs := h.keep (h.dc.alloc o) (World.grownBy_alloc W o none) (fun q hq => by cases hq)
theorem OSt.c3 (h : OSt w W S db K s va vc vs) : W.cell? ⟨w.heap.size,3,none⟩ = some va := (h.blk.cell 3).trans rfl
theorem OSt.c5 (h : OSt w W S db K s va vc vs) : W.cell? ⟨w.heap.size,5,none⟩ = some vs := (h.blk.cell 5).trans rfl
theorem OSt.lt (h : OSt w W S db K s va vc vs) : db < w.heap.size ∧ w.heap.size + 1 < W.heap.size := ⟨h.dlt,h.res.lt⟩
theorem OSt.row (h : OSt w W S db K s va vc vs) {o : Obj} {v : Value} (hv : ∀ g,v.ownBlock = some g → w.heap.size + 2 ≤ g) (hg : (W.alloc o).grownBy W' v.ownBlock) : (∀ q,q < W.heap.size → v.ownBlock ≠ some q → W'.heap[q]? = W.heap[q]?) ∧ Dc W' db ∧ Blk W' w.heap.size 29 #[.string s.resp,.int .i64 s.dep,.int .i64 s.day,va,vc,vs] ∧ TermsAt W' S vc s.cond ∧ Blk W' (w.heap.size + 1) 29 stmZ ∧ w.grownBy W' (some db) := by
 have h1:=h.dlt
 have l1:=h.blk.lt
 have l2:=h.res.lt
 have kb:∀ q,q < W.heap.size → v.ownBlock ≠ some q → W'.heap[q]?=W.heap[q]?:=fun q hq hne => (hg.block q (by simp; omega) (fun e => hne e.symm)).trans (Below.heap_alloc W o q hq)
 have kl:∀ q,q < w.heap.size+2 → W'.heap[q]?=W.heap[q]?:=fun q hq => kb q (by omega) (fun e => by have:=hv q e; omega)
 have hsz:=hg.size
 simp only [World.size_alloc] at hsz
 refine ⟨kb,h.dc.keep fun q hq => kl q (by omega),(kl _ (by omega)).trans h.blk,h.cc.keep fun b hb => kl b (by have:=(h.sin b hb).2; omega),(kl _ (by omega)).trans h.res,⟨hg.os.trans h.gw.os,hg.tape.trans h.gw.tape,hg.output.trans h.gw.output,by have:=h.gw.size; omega,fun q hq hne => (kl q (by omega)).trans (h.gw.block q hq hne)⟩⟩
theorem OSt.set (h : OSt w W S db K s va vc vs) (i : Nat) (v : Value) {s' : Stm} (hb : Blk (W.setCell ⟨w.heap.size,i,none⟩ v) w.heap.size 29 #[.string s'.resp,.int .i64 s'.dep,.int .i64 s'.day,va,vc,vs]) (ha : s'.ans = s.ans) (hc : s'.cond = s.cond) (hs : s'.shw = s.shw) {K' : Nat} (hk : StmB K' s') : OSt w (W.setCell ⟨w.heap.size,i,none⟩ v) S db K' s' va vc vs := by
 have hset:W.grownBy (W.setCell ⟨w.heap.size,i,none⟩ v) (some w.heap.size):=grown_setCell W ⟨w.heap.size,i,none⟩ v
 have h1:=h.dlt
 have l2:=h.res.lt
 have l0:=h.dc.lt
 refine ⟨h.sin,h1,h.dc.keep fun q hq => hset.block q (by omega) (fun e => by injection e; omega),hb,(hset.block _ l2 (fun e => by injection e; omega)).trans h.res,?_,?_,?_,?_,hk⟩
 ·rw [ha]; exact h.oa.kept hset (.inr fun e => by have:=(h.oa.lt _ e).1; omega)
 ·rw [hs]; exact h.os.kept hset (.inr fun e => by have:=(h.os.lt _ e).1; omega)
 ·rw [hc]; exact h.cc.keep fun b hb' => hset.block b (by have:=(h.sin b hb').2; omega) (fun e => by injection e; have:=(h.sin b hb').2; omega)
 ·exact ⟨hset.os.trans h.gw.os,hset.tape.trans h.gw.tape,hset.output.trans h.gw.output,Nat.le_trans h.gw.size hset.size,fun q hq hne => (hset.block q (Nat.lt_of_lt_of_le hq h.gw.size) (fun e => by injection e; omega)).trans (h.gw.block q hq hne)⟩
theorem OSt.setA {g cap n : Nat} (h : OSt w W S db K s (.slice (some ⟨g,0,none⟩) n cap) vc vs) (hn : n = s.ans.length) {k : Nat} (hk : k < n) (x : ByteArray) (y : Int) {K' : Nat} (hK : K ≤ K') (hx : x.size ≤ K') (hy : In64' y) :
  OSt w ((W.setCell ⟨g,k*3+1,none⟩ (.string x)).setCell ⟨g,k*3+2,none⟩ (.int .i64 y)) S db K' { s with ans:=s.ans.set k ⟨(ansAt s.ans k).field,x,y⟩ } (.slice (some ⟨g,0,none⟩) n cap) vc vs:=by
 subst hn
 obtain ⟨o1,g1⟩:=World.ownsRow.stored h.oa (k*3+1) (.string x)
 obtain ⟨o2,g2⟩:=World.ownsRow.stored o1 (k*3+2) (.int .i64 y)
 rw [ansC_set s.ans k ⟨(ansAt s.ans k).field,x,y⟩ hk rfl] at o2
 have hg:=gb_trans g1 g2
 have hgB:=(h.oa.lt g rfl).1
 have h1:=h.dlt
 have l1:=h.blk.lt
 have l2:=h.res.lt
 have kb:∀ q,q < w.heap.size+2 → ((W.setCell ⟨g,k*3+1,none⟩ (.string x)).setCell ⟨g,k*3+2,none⟩ (.int .i64 y)).heap[q]?=W.heap[q]?:=fun q hq => hg.block q (by omega) (fun e => by injection e; omega)
 have m:=h.sm.mono hK
 refine ⟨h.sin,h1,h.dc.keep fun q hq => kb q (by omega),(kb _ (by omega)).trans h.blk,(kb _ (by omega)).trans h.res,?_,h.os.kept hg (own_ne h.os h.oa (by decide)),h.cc.keep fun b hb => kb b (by have:=(h.sin b hb).2; omega),?_,?_⟩
 ·show World.ownsRow _ _ _ _ _ (s.ans.set k _).length _
  rw [List.length_set]
  exact o2
 ·exact ⟨hg.os.trans h.gw.os,hg.tape.trans h.gw.tape,hg.output.trans h.gw.output,Nat.le_trans h.gw.size hg.size,fun q hq hne => (kb q (by omega)).trans (h.gw.block q hq hne)⟩
 ·refine ⟨m.resp,m.dep,m.day,by show (s.ans.set k _).length ≤ K'; rw [List.length_set]; exact m.an,fun a ha => ?_,m.sn,m.shw,m.cn,m.cond⟩
  rcases List.mem_or_eq_of_mem_set ha with e | e
  ·exact m.ans a e
  ·rw [e]; exact ⟨(m.ans _ (ansAt_mem hk)).1,hx,hy⟩
theorem OSt.fin (h : OSt w W S db K s va vc vs) : ∃ Aa na ca Ac nc cc As ns cs,va = .slice Aa na ca ∧ vc = .slice Ac nc cc ∧ vs = .slice As ns cs ∧
  ∀ W2,W2=(((((W.setCell ⟨w.heap.size+1,0,none⟩ (.string s.resp)).setCell ⟨w.heap.size+1,1,none⟩ (.int .i64 s.dep)).setCell ⟨w.heap.size+1,2,none⟩ (.int .i64 s.day)).setCell ⟨w.heap.size+1,3,none⟩ va).setCell ⟨w.heap.size+1,4,none⟩ vc).setCell ⟨w.heap.size+1,5,none⟩ vs →
   OStE w S db K (.returned (.agg #[.string s.resp,.int .i64 s.dep,.int .i64 s.day,va,vc,vs])) W2 ∧ Blk W2 (w.heap.size+1) 29 #[.string s.resp,.int .i64 s.dep,.int .i64 s.day,va,vc,vs]:=by
 have l2:=h.res.lt
 exact ost_fin (T:=fun q => (S q ∨ w.heap.size ≤ q) ∧ q ≠ w.heap.size+1 ∧ q < W.heap.size) h.dc h.dlt h.blk h.res ⟨(AnssAt.of_own h.oa).mono fun q hq => ⟨.inr (by omega),by omega,hq.2⟩,h.cc.mono fun q hq => ⟨.inl hq,by have:=(h.sin q hq).2; omega,by have:=(h.sin q hq).2; omega⟩,(ShwsAt.of_own h.os).mono fun q hq => ⟨.inr (by omega),by omega,hq.2⟩⟩ (fun q hq => hq) h.gw h.sm
end
theorem anss_src {w : World} {S : Nat → Prop} {b off n c : Nat} {L : List Ans} (h : AnssAt w S (.slice (some ⟨b,off,none⟩) n c) L) :
  ∀ j u,(ansC L)[j]?=some u → w.cell? ((⟨b,off,none⟩:Addr).add j)=some u:=by
 obtain ⟨A,n',c',he,hn,hnc,h4⟩:=h
 injection he with e1 e2 e3
 subst e2 e3
 intro j u hj
 have hjl:j < (ansC L).length:=(List.getElem?_eq_some_iff.1 hj).1
 rw [ansC_len] at hjl
 obtain ⟨b',off',hA,hS,hc⟩:=h4 (by omega)
 rw [← e1] at hA
 injection hA with hA; injection hA with a1 a2
 subst a1 a2
 obtain ⟨x,y,z⟩:=ansC_at L (j / 3) (by omega)
 obtain ⟨p,q,r⟩:=hc (j / 3) (by omega)
 rw [Go.WideShapes.add_plain]
 have h3:j % 3=0 ∨ j % 3=1 ∨ j % 3=2:=by omega
 rcases h3 with e | e | e
 ·have hj2:j / 3*3=j:=by omega
  rw [hj2] at x p
  rw [hj] at x
  injection x with x
  subst x
  exact p
 ·have hj2:j / 3*3+1=j:=by omega
  rw [hj2] at y
  rw [Nat.add_assoc,hj2] at q
  rw [hj] at y
  injection y with y
  subst y
  exact q
 ·have hj2:j / 3*3+2=j:=by omega
  rw [hj2] at z
  rw [Nat.add_assoc,hj2] at r
  rw [hj] at z
  injection z with z
  subst z
  exact r
theorem ansC_one (L : List Ans) : ∀ u ∈ ansC L,u.oneCell' = true := by
 intro u hu
 unfold ansC at hu
 obtain ⟨a,_,ha⟩:=List.mem_flatMap.1 hu
 simp at ha
 rcases ha with rfl | rfl | rfl <;> rfl
theorem run_copy_answers (w : World) (ty : TypeId) (S : Nat → Prop) (A : Option Addr) (n c : Nat) (L : List Ans) (hv : AnssAt w S (.slice A n c) L) (hl : L.length ≤ 1000000) :
  ∃ v' w',(Builtin.append_ #[23,23] ty #[.slice none 0 0,.slice A n c]).run Tryz.prog w=.ok v' w' ∧ w'.ownsRow w.heap.size 50 3 v' L.length (ansC L) ∧ Below w.heap.size w w':=by
 obtain ⟨j0,hj,hy0,hy1,hy2⟩:=info_parts infoAn
 obtain ⟨A',n',c',he,hn,hnc,h4⟩:=id hv
 injection he with e1 e2 e3
 subst e2 e3
 cases A with
 | none =>
  have hn0:n=0:=by
   refine Nat.eq_zero_of_not_pos fun h => ?_
   obtain ⟨b,off,hA,-⟩:=h4 h
   rw [← e1] at hA
   cases hA
  subst hn0
  have hL:L = []:=List.eq_nil_of_length_eq_zero hn.symm
  subst hL
  refine ⟨.slice none 0 0,w,?_,World.ownsRow_nil _ _ _ _,Below.refl _ _⟩
  simp [Builtin.append_,run_underlying Tryz.underlying23,sizeOf,typeInfo,hj,Builtin.lenOf,Builtin.firstCells]
 | some ad =>
  obtain ⟨b,off,r⟩:=ad
  by_cases hp:0 < n
  ·obtain ⟨b',off',hA,-⟩:=h4 hp
   rw [← e1] at hA
   injection hA with hA; injection hA with a1 a2 a3
   subst a1 a2 a3
   obtain ⟨v',w',hr,ho,hg,-,-⟩:=run_append_own_at (P:=Tryz.prog) (w:=w) w.heap.size 23 ty 50 j0 (.agg #[.string ⟨#[]⟩,.string ⟨#[]⟩,.int .i64 0]) 3 40 Tryz.underlying23 hj hy0 hy1 hy2 rfl (by decide) (.slice none 0 0) 0 [] (World.ownsRow_nil _ _ _ _) ⟨b,off,none⟩ n c (ansC L) (by rw [ansC_len,hn]) (anss_src hv) (ansC_one L) (by simp only [maxLen]; omega) (by omega) (Nat.le_refl _)
   rw [Nat.zero_add,List.nil_append,hn] at ho
   refine ⟨v',w',hr,ho,⟨hg.os,hg.tape,hg.output,hg.size,fun q hq => hg.block q hq (by simp [Value.ownBlock])⟩⟩
  ·have hn0:n=0:=by omega
   subst hn0
   have hL:L = []:=List.eq_nil_of_length_eq_zero hn.symm
   subst hL
   obtain ⟨v',w',hr,ho,hg,-,-⟩:=run_append_own_at (P:=Tryz.prog) (w:=w) w.heap.size 23 ty 50 j0 (.agg #[.string ⟨#[]⟩,.string ⟨#[]⟩,.int .i64 0]) 3 40 Tryz.underlying23 hj hy0 hy1 hy2 rfl (by decide) (.slice none 0 0) 0 [] (World.ownsRow_nil _ _ _ _) ⟨b,off,r⟩ 0 c [] rfl (fun j u h => by simp at h) (fun u h => by cases h) (by simp only [maxLen]; omega) (by omega) (Nat.le_refl _)
   exact ⟨v',w',hr,ho,⟨hg.os,hg.tape,hg.output,hg.size,fun q hq => hg.block q hq (by simp [Value.ownBlock])⟩⟩
section
variable {ops : Array Oper} {o : Oper} {a : Act} {w : World} {Kk : Act → World → Prop} {Q : Exit → Act → World → Prop} {E : Prop}
theorem step_copy_answers (hgd : o.guard = none) (s x : Operand)
  (ho:o.op=.call { callee:=.builtin .append,args:=#[s,x],argTypes:=#[23,23] })
  (hs:a.eval s=.slice none 0 0) (S:Nat → Prop) (A:Option Addr) (n c:Nat) (L:List Ans) (hv:AnssAt w S (.slice A n c) L) (hx:a.eval x=.slice A n c) (hl:L.length ≤ 1000000)
  (h:∀ v' w',w'.ownsRow w.heap.size 50 3 v' L.length (ansC L) → Below w.heap.size w w' → Kk (a.put o.dst v') w'):if Region.wanted o (yielded ops a.tmps)=true then Oper.wp Tryz.prog o a w Kk Q else E:=by
 have hw:Region.wanted o (yielded ops a.tmps)=true:=by simp [Region.wanted,hgd]
 rw [if_pos hw]
 obtain ⟨v',w',hr,h2,h3⟩:=run_copy_answers w o.type S A n c L hv hl
 unfold Oper.wp execOp
 simp only [ho,resolve,invoke,builtin,Sem.run_bind,Sem.run_pure,Result.andThen_ok,List.map_toArray,List.map_cons,List.map_nil,hs,hx,hr]
 exact h v' w' h2 h3
end
end Go.Proofs.YtgdngfdeeadlnaaGreatDoor

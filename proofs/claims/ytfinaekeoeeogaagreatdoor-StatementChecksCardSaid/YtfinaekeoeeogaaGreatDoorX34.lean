/- Words for memory: what the kit's OddCondition keeps while it changes a copy of a list of t -/
import Derived.Test.YtfinaekeoeeogaaGreatDoorX33
import Derived.Test.YtfinaekeoeeogaaGreatDoorX14
set_option linter.unusedVariables false
set_option linter.unusedSimpArgs false
namespace Go.Proofs.YtfinaekeoeeogaaGreatDoor
open Go.RowKit Num
theorem blk_two (w : World) (o1 : Obj) (T : TypeId) (ys : Array Value) : Blk ((w.alloc o1).alloc (.cells ys T)) (w.heap.size + 1) T ys := by
 have:=Blk.new (w.alloc o1) T ys
 rwa [World.size_alloc] at this
def TrmB (K : Nat) (t : Trm) : Prop := t.field.size ≤ K ∧ t.text.size ≤ K ∧ t.args.length ≤ K
def OddE (w : World) (S : Nat → Prop) (db N K : Nat) (e : Ending) (w' : World) : Prop := ∃ A n c L,e = .returned (.agg #[.slice A n c]) ∧ TermsAt w' (fun b => (S b ∨ w.heap.size ≤ b) ∧ b < w'.heap.size) (.slice A n c) L ∧ L.length ≤ N + 1 ∧ (∀ t ∈ L,TrmB K t) ∧ Dc w' db ∧ w.grownBy w' (some db)
theorem odd_end {w W : World} {S : Nat → Prop} {db rb N K : Nat} {A : Option Addr} {n c : Nat} {L' : List Trm} (hT : TermsAt W (fun q => (S q ∨ w.heap.size ≤ q) ∧ q ≠ rb ∧ q < W.heap.size) (.slice A n c) L') (hl : L'.length ≤ N + 1) (hok : ∀ t ∈ L',TrmB K t) (hd : Dc W db) (hg : w.grownBy W (some db)) (hrb : w.heap.size ≤ rb) (hdb : db < rb) (v' : Value) :
  OddE w S db N K (.returned (.agg #[.slice A n c])) (W.setCell ⟨rb,0,none⟩ v'):=by
 have hc:Chg W (W.setCell ⟨rb,0,none⟩ v') (fun q => q=rb):=Chg.setCell (Chg.refl W (fun q => q=rb)) ⟨rb,0,none⟩ (fun _ => rfl) v'
 refine ⟨A,n,c,L',rfl,(hT.keep fun q hq => hc.block q hq.2.2 hq.2.1).mono fun q hq => ⟨hq.1,Nat.lt_of_lt_of_le hq.2.2 hc.size⟩,hl,hok,hd.keep fun i hi => hc.block i (by have:=hd.lt; omega) (by omega),?_⟩
 exact ⟨hc.os.trans hg.os,hc.tape.trans hg.tape,hc.output.trans hg.output,Nat.le_trans hg.size hc.size,fun k hk hne => (hc.block k (Nat.lt_of_lt_of_le hk hg.size) (by omega)).trans (hg.block k hk hne)⟩
theorem OwnTr.termsG {w : World} {B g cap : Nat} {S : Nat → Prop} {L : List Trm} {us : Nat → Value} (h : OwnTr w B S (.slice (some ⟨g,0,none⟩) L.length cap) L us) : TermsAt w (fun b => S b ∨ b = g) (.slice (some ⟨g,0,none⟩) L.length cap) L := by
 have hnc:L.length ≤ cap:=by
  rcases h.row.2 with ⟨h1,_⟩ | ⟨g',cap',cur,h1,_,_,h2,_⟩
  ·cases h1
  ·injection h1 with _ _ h1; omega
 refine ⟨some ⟨g,0,none⟩,L.length,cap,rfl,rfl,hnc,fun _ => ⟨g,0,rfl,.inr rfl,fun k hk => ?_⟩⟩
 have hc:∀ i u,i < 6 → (tmCell (trmAt L k) (us k)).getD i undef=u → w.cell? ⟨g,0+k*6+i,none⟩=some u:=by
  intro i u hi hu
  rw [Nat.zero_add]
  exact own_cell h.row (k*6+i) u (by rw [tmsC_at L us k i hk hi,hu])
 exact ⟨hc 0 _ (by decide) rfl,hc 1 _ (by decide) rfl,hc 2 _ (by decide) rfl,hc 3 _ (by decide) rfl,hc 4 _ (by decide) rfl,us k,hc 5 _ (by decide) rfl,(h.args k hk).mono fun b hb => .inl hb⟩
theorem terms_tail {w : World} {S : Nat → Prop} {g n cap : Nat} {L : List Trm} (h : TermsAt w S (.slice (some ⟨g,0,none⟩) n cap) L) (h1 : 1 ≤ n) : TermsAt w S (.slice (subA (some ⟨g,0,none⟩) cap 1 6) (n - 1) (cap - 1)) L.tail := by
 obtain ⟨A,n',c',he,hn,hnc,h4⟩:=h
 injection he with e1 e2 e3
 subst e2 e3
 refine ⟨_,n - 1,cap - 1,rfl,by rw [List.length_tail]; omega,by omega,fun hn0 => ?_⟩
 obtain ⟨b,off,hA,hS,hc⟩:=h4 (by omega)
 rw [← e1] at hA
 injection hA with hA; injection hA with a1 a2
 subst a1 a2
 refine ⟨g,6,?_,hS,fun k hk => ?_⟩
 ·unfold subA
  rw [if_neg (by omega)]
  rfl
 ·have:=hc (k+1) (by omega)
  have e:trmAt L.tail k=trmAt L (k+1):=by unfold trmAt; rw [List.getD_eq_getElem?_getD,List.getD_eq_getElem?_getD,List.getElem?_tail]
  rw [e,show 6+k*6=0+(k+1)*6 by omega]
  exact this
structure OdS (w W : World) (S : Nat → Prop) (db cb g n cap : Nat) (L : List Trm) (us : Nat → Value) : Prop where
  sin : ∀ q, S q → q ≠ db ∧ q < w.heap.size
  len : n = L.length
  one : 1 ≤ n
  dc : Dc W db
  own : OwnTr W (w.heap.size + 2) S (.slice (some ⟨g, 0, none⟩) L.length cap) L us
  res : Blk W (w.heap.size + 1) 26 #[.slice none 0 0]
  cnd : Blk W cb 26 #[.slice (some ⟨g, 0, none⟩) n cap]
  gw : w.grownBy W (some db)
  dlt : db < w.heap.size
  glt : w.heap.size + 2 ≤ g
  clt : g < cb
section
variable {w W W' : World} {S : Nat → Prop} {db cb g n cap K : Nat} {L : List Trm} {us : Nat → Value} {T : Nat → Prop}
theorem OdS.keep (h : OdS w W S db cb g n cap L us) (hd : Dc W' db) (hc : Chg W W' T) (hT : ∀ i,i < W.heap.size → T i → i = db) : OdS w W' S db cb g n cap L us := by
 have h1:=h.dlt
 have h2:=h.glt
 have h3:=h.clt
 have hs:=h.gw.size
 have kb:∀ q,q < W.heap.size → q ≠ db → W'.heap[q]?=W.heap[q]?:=fun q hq hne => hc.block q hq (fun e => hne (hT q hq e))
 have hl:=h.len
 have ho:=h.one
 have hgl:g < W.heap.size:=Nat.lt_trans h3 h.cnd.lt
 exact ⟨h.sin,hl,ho,hd,⟨hc.own h.own.row (fun q hq e => by have hq':g=q:=Option.some.inj hq; have:=hT q (by omega) e; omega),fun k hk => (h.own.args k hk).keep fun q hq => kb q (by have:=(h.sin q hq).2; omega) (h.sin q hq).1⟩,(kb _ h.res.lt (by omega)).trans h.res,(kb _ h.cnd.lt (by omega)).trans h.cnd,
  ⟨hc.os.trans h.gw.os,hc.tape.trans h.gw.tape,hc.output.trans h.gw.output,Nat.le_trans hs hc.size,fun q hq hne => (kb q (by omega) (fun e => hne (by rw [e]))).trans (h.gw.block q hq hne)⟩,h1,h2,h3⟩
theorem OdS.dice (h : OdS w W S db cb g n cap L us) (hd : Dc W' db) (hg : W.grownBy W' (some db)) : OdS w W' S db cb g n cap L us :=
 h.keep (T:=fun i => i=db) hd (Chg.of_grown hg (fun g hg _ => by cases hg; rfl)) (fun _ _ e => e)
theorem OdS.alloc (h : OdS w W S db cb g n cap L us) (o : Obj) : OdS w (W.alloc o) S db cb g n cap L us := h.keep (T := fun _ => False) (h.dc.alloc o) ((Chg.refl W _).alloc o) (fun _ _ e => e.elim)
theorem OdS.grown (h : OdS w W S db cb g n cap L us) {row : Option Nat} (hg : W.grownBy W' row) (hr : ∀ q,row = some q → cb < q) : OdS w W' S db cb g n cap L us := by
 have hs:=h.gw.size
 have h1:=h.dlt
 have h2:=h.glt
 have h3:=h.clt
 have kb:∀ q,q < W.heap.size → q ≤ cb → W'.heap[q]?=W.heap[q]?:=fun q hq hne => hg.block q hq (fun e => by have:=hr q e.symm; omega)
 have hgl:g < W.heap.size:=Nat.lt_trans h3 h.cnd.lt
 refine ⟨h.sin,h.len,h.one,h.dc.keep fun q hq => kb q (by have:=h.dc.lt; omega) (by omega),⟨h.own.row.kept hg ?_,fun k hk => (h.own.args k hk).keep fun q hq => kb q (by have:=(h.sin q hq).2; omega) (by have:=(h.sin q hq).2; omega)⟩,(kb _ h.res.lt (by omega)).trans h.res,(kb _ h.cnd.lt (by omega)).trans h.cnd,⟨hg.os.trans h.gw.os,hg.tape.trans h.gw.tape,hg.output.trans h.gw.output,Nat.le_trans hs hg.size,fun q hq hne => (kb q (by omega) (by omega)).trans (h.gw.block q hq hne)⟩,h1,h2,h3⟩
 rcases row with _ | q
 ·exact .inr (by intro e; cases e)
 ·have:=hr q rfl
  exact .inr (by intro e; have e':some g=some q:=e; injection e' with e'; omega)
theorem OdS.cc (h : OdS w W S db cb g n cap L us) : W.cell? ⟨cb,0,none⟩ = some (.slice (some ⟨g,0,none⟩) n cap) := h.cnd.cell 0
theorem OdS.cr (h : OdS w W S db cb g n cap L us) : W.cell? ⟨w.heap.size + 1,0,none⟩ = some (.slice none 0 0) := h.res.cell 0
theorem OdS.fc (h : OdS w W S db cb g n cap L us) : W.frozen? ⟨cb,0,none⟩ = false := h.cnd.frozen 0
theorem OdS.fr (h : OdS w W S db cb g n cap L us) : W.frozen? ⟨w.heap.size + 1,0,none⟩ = false := h.res.frozen 0
theorem OdS.ct (h : OdS w W S db cb g n cap L us) (k i : Nat) (hk : k < n) (hi : i < 6) : W.cell? ⟨g,k * 6 + i,none⟩ = some ((tmCell (trmAt L k) (us k)).getD i undef) :=
 own_cell h.own.row (k*6+i) _ (tmsC_at L us k i (by have:=h.len; omega) hi)
theorem OdS.ft (h : OdS w W S db cb g n cap L us) (k : Nat) : W.frozen? ⟨g,k,none⟩ = false := own_frozen h.own.row k
theorem OdS.glw (h : OdS w W S db cb g n cap L us) : g < W.heap.size := Nat.lt_trans h.clt h.cnd.lt
theorem OdS.resAfter (h : OdS w W S db cb g n cap L us) (b i : Nat) (v x : Value) (hb : b ≠ w.heap.size + 1) : ((W.setCell ⟨b,i,none⟩ v).setCell ⟨w.heap.size + 1,0,none⟩ x).cell? ⟨w.heap.size + 1,0,none⟩ = some x := by
 have h1:Blk (W.setCell ⟨b,i,none⟩ v) (w.heap.size+1) 26 #[.slice none 0 0]:=(Below.heap_setCell _ _ _ _ (by show w.heap.size+1 ≠ b; omega)).trans h.res
 exact World.cell?_setCell_same _ _ _ (h1.cell 0)
theorem OdS.resNow (h : OdS w W S db cb g n cap L us) (x : Value) : (W.setCell ⟨w.heap.size + 1,0,none⟩ x).cell? ⟨w.heap.size + 1,0,none⟩ = some x := World.cell?_setCell_same _ _ _ h.cr
theorem ok_set {K : Nat} {L : List Trm} {k : Nat} {t' : Trm} (hok : ∀ t ∈ L,TrmB K t) (ht : TrmB K t') : ∀ t ∈ L.set k t',TrmB K t := fun t hm => by
 rcases List.mem_or_eq_of_mem_set hm with e | e
 ·exact hok t e
 ·rw [e]; exact ht
theorem OdS.stored (h : OdS w W S db cb g n cap L us) {k i : Nat} (hk : k < n) (hi : i < 6) (t' : Trm) (u' v : Value) (e : (tmCell (trmAt L k) (us k)).set i v = tmCell t' u')
  (hu:IntsAt W (fun q => (S q ∨ w.heap.size ≤ q) ∧ q ≠ db ∧ q ≠ w.heap.size+1 ∧ q ≠ g ∧ q < W.heap.size) u' t'.args) (ok:TrmB K t') (hok:∀ t ∈ L,TrmB K t) (v':Value) :
  OddE w S db n K (.returned (.agg #[.slice (some ⟨g,0,none⟩) n cap])) ((W.setCell ⟨g,k*6+i,none⟩ v).setCell ⟨w.heap.size+1,0,none⟩ v'):=by
 have h1:=h.dlt
 have h2:=h.glt
 have h3:=h.clt
 have hs:=h.gw.size
 have hl:=h.len
 have hgw:=h.glw
 have hgr:w.heap.size+1 < W.heap.size:=h.res.lt
 obtain ⟨o1,o2⟩:=(h.own.mono (T:=fun q => (S q ∨ w.heap.size ≤ q) ∧ q ≠ db ∧ q ≠ w.heap.size+1 ∧ q ≠ g ∧ q < W.heap.size) (fun q hq => ⟨.inl hq,(h.sin q hq).1,by have:=(h.sin q hq).2; omega,by have:=(h.sin q hq).2; omega,by have:=(h.sin q hq).2; omega⟩)).store (by omega) hi t' u' v e hu (fun q hq => ⟨hq.2.2.2.2,hq.2.2.2.1⟩)
 rw [show L.length=(L.set k t').length by rw [List.length_set]] at o1
 have hT:=o1.termsG
 rw [List.length_set,← hl] at hT
 have hsz:=o2.size
 refine odd_end (hT.mono fun q hq => ?_) (by rw [List.length_set]; omega) (ok_set hok ok) (h.dc.keep fun q hq => o2.block q (by have:=h.dc.lt; omega) (fun e => by injection e; omega)) ?_ (by omega) (by omega) v'
 ·rcases hq with ⟨a,_,b,c,d⟩ | a
  ·exact ⟨a,b,by omega⟩
  ·exact ⟨.inr (by omega),by omega,by omega⟩
 ·exact ⟨o2.os.trans h.gw.os,o2.tape.trans h.gw.tape,o2.output.trans h.gw.output,by omega,fun q hq hne => (o2.block q (by omega) (fun e => by injection e; omega)).trans (h.gw.block q hq hne)⟩
theorem OdS.arg (h : OdS w W S db cb g n cap L us) {k : Nat} (hk : k < n) : IntsAt W (fun q => (S q ∨ w.heap.size ≤ q) ∧ q ≠ db ∧ q ≠ w.heap.size + 1 ∧ q ≠ g ∧ q < W.heap.size) (us k) (trmAt L k).args :=
 (h.own.args k (by have:=h.len; omega)).mono fun q hq => ⟨.inl hq,(h.sin q hq).1,by have:=(h.sin q hq).2; omega,by have:=h.glt; have:=(h.sin q hq).2; omega,by have:=h.gw.size; have:=(h.sin q hq).2; omega⟩
theorem OdS.plain (h : OdS w W S db cb g n cap L us) (hok : ∀ t ∈ L,TrmB K t) (v' : Value) : OddE w S db n K (.returned (.agg #[.slice (some ⟨g,0,none⟩) n cap])) (W.setCell ⟨w.heap.size + 1,0,none⟩ v') := by
 have h1:=h.dlt
 have h2:=h.glt
 have h3:=h.clt
 have hs:=h.gw.size
 have hl:=h.len
 have hgw:=h.glw
 have hT:=h.own.termsG
 rw [← hl] at hT
 refine odd_end (hT.mono fun q hq => ?_) (by omega) hok h.dc h.gw (by omega) (by omega) v'
 rcases hq with a | a
 ·have:=h.sin q a
  exact ⟨.inl a,by omega,by omega⟩
 ·exact ⟨.inr (by omega),by omega,by omega⟩
theorem OdS.cut (h : OdS w W S db cb g n cap L us) (hok : ∀ t ∈ L,TrmB K t) (x v' : Value) :
  OddE w S db n K (.returned (.agg #[.slice (subA (some ⟨g,0,none⟩) cap 1 6) (n - 1) (cap - 1)])) ((W.setCell ⟨cb,0,none⟩ x).setCell ⟨w.heap.size+1,0,none⟩ v'):=by
 have h1:=h.dlt
 have h2:=h.glt
 have h3:=h.clt
 have hs:=h.gw.size
 have hl:=h.len
 have ho:=h.one
 have hgw:=h.glw
 have hT:=h.own.termsG
 rw [← hl] at hT
 have hc:Chg W (W.setCell ⟨cb,0,none⟩ x) (fun q => q=cb):=chg_set W cb 0 x
 have hsz:=hc.size
 have hT2:=terms_tail hT ho
 have hT3:TermsAt (W.setCell ⟨cb,0,none⟩ x) (fun b => S b ∨ b=g) (.slice (subA (some ⟨g,0,none⟩) cap 1 6) (n - 1) (cap - 1)) L.tail:=hT2.keep fun q hq => (by
  have hq':q ≤ g ∧ q ≠ cb:=by
   rcases hq with a | a
   ·have:=h.sin q a; omega
   ·omega
  exact hc.block q (by omega) (by omega))
 refine odd_end (hT3.mono fun q hq => ?_) (by rw [List.length_tail]; omega) (fun t ht => hok t (List.mem_of_mem_tail ht)) (h.dc.keep fun q hq => hc.block q (by have:=h.dc.lt; omega) (by omega)) ?_ (by omega) (by omega) v'
 ·rcases hq with a | a
  ·have:=h.sin q a
   exact ⟨.inl a,by omega,by omega⟩
  ·exact ⟨.inr (by omega),by omega,by omega⟩
 ·exact ⟨hc.os.trans h.gw.os,hc.tape.trans h.gw.tape,hc.output.trans h.gw.output,by omega,fun q hq hne => (hc.block q (by omega) (by omega)).trans (h.gw.block q hq hne)⟩
theorem OdS.pushed (h : OdS w W S db cb g n cap L us) (hok : ∀ t ∈ L,TrmB K t) {t : Trm} (ht : t.args = []) (htk : TrmB K t) {o : Obj} {v2 : Value} (hown : W'.ownsRow (w.heap.size + 2) 51 6 v2 (n + 1) (tmsC L us ++ tmCell t (.slice none 0 0))) (hg : (W.alloc o).grownBy W' (some g))
  (hwh:v2.ownBlock=some g ∨ v2.ownBlock=some (W.heap.size+1)) :
  ∃ A2 c2,v2=.slice A2 (n+1) c2 ∧ W'.cell? ⟨cb,0,none⟩=some (.slice (some ⟨g,0,none⟩) n cap) ∧ W'.frozen? ⟨cb,0,none⟩=false ∧ W'.cell? ⟨w.heap.size+1,0,none⟩=some (.slice none 0 0) ∧ W'.frozen? ⟨w.heap.size+1,0,none⟩=false ∧ (∀ x y,((W'.setCell ⟨cb,0,none⟩ x).setCell ⟨w.heap.size+1,0,none⟩ y).cell? ⟨w.heap.size+1,0,none⟩=some y) ∧
   ∀ x v',OddE w S db n K (.returned (.agg #[.slice A2 (n+1) c2])) ((W'.setCell ⟨cb,0,none⟩ x).setCell ⟨w.heap.size+1,0,none⟩ v'):=by
 have h1:=h.dlt
 have h2:=h.glt
 have h3:=h.clt
 have hs:=h.gw.size
 have hl:=h.len
 have ho:=h.one
 have hgw:=h.glw
 have hgs:=hg.size
 simp only [World.size_alloc] at hgs
 have hch:Chg W W' (fun i => i=g):=((Chg.refl W (fun i => i=g)).alloc o).trans (Chg.of_grown hg (fun q hq _ => by cases hq; rfl)) (fun _ _ e => e)
 obtain ⟨g2,c2,rfl,hg2,hgl2⟩:=hown.form (by omega)
 have hg2':g2=g ∨ g2=W.heap.size+1:=by
  rcases hwh with e | e
  ·exact .inl (Option.some.inj e)
  ·exact .inr (Option.some.inj e)
 have hcl:=h.cnd.lt
 have hrl:=h.res.lt
 have hOT:OwnTr W' (w.heap.size+2) S (.slice (some ⟨g2,0,none⟩) (L ++ [t]).length c2) (L ++ [t]) (fun k => if k=L.length then .slice none 0 0 else us k):=by
  refine ⟨?_,fun k hk => ?_⟩
  ·rw [tmsC_snoc,List.length_append]
   have e:tmsC L (fun k => if k=L.length then .slice none 0 0 else us k)=tmsC L us:=tmsC_congr L fun k hk => if_neg (by omega)
   rw [e,← hl]; simpa using hown
  ·rw [List.length_append] at hk
   by_cases e:k=L.length
   ·subst e; rw [if_pos rfl,trmAt_new,ht]; exact ⟨none,0,0,rfl,rfl,Nat.le_refl _,fun h => absurd h (by omega)⟩
   ·rw [if_neg e,trmAt_old L t k (by simp at hk; omega)]
    exact (h.own.args k (by simp at hk; omega)).keep fun q hq => hch.block q (by have:=(h.sin q hq).2; omega) (by have:=(h.sin q hq).2; omega)
 have hT:=hOT.termsG
 rw [List.length_append,← hl] at hT
 have hcnd:Blk W' cb 26 #[.slice (some ⟨g,0,none⟩) n cap]:=hch.blk h.cnd (by omega)
 have hres:Blk W' (w.heap.size+1) 26 #[.slice none 0 0]:=hch.blk h.res (by omega)
 refine ⟨_,c2,rfl,hcnd.cell 0,hcnd.frozen 0,hres.cell 0,hres.frozen 0,fun x y => ?_,fun x v' => ?_⟩
 ·have h1:Blk (W'.setCell ⟨cb,0,none⟩ x) (w.heap.size+1) 26 #[.slice none 0 0]:=(Below.heap_setCell _ _ _ _ (by show w.heap.size+1 ≠ cb; omega)).trans hres
  exact World.cell?_setCell_same _ _ _ (h1.cell 0)
 ·have hc:Chg W' (W'.setCell ⟨cb,0,none⟩ x) (fun q => q=cb):=chg_set W' cb 0 x
  have hsz:=hc.size
  have hT3:TermsAt (W'.setCell ⟨cb,0,none⟩ x) (fun b => S b ∨ b=g2) (.slice (some ⟨g2,0,none⟩) (n+1) c2) (L ++ [t]):=hT.keep fun q hq => (by
   have hq':q < W'.heap.size ∧ q ≠ cb:=by
    rcases hq with a | a
    ·have:=h.sin q a; omega
    ·omega
   exact hc.block q hq'.1 hq'.2)
  refine odd_end (hT3.mono fun q hq => ?_) (by rw [List.length_append]; simp; omega) (fun t' ht' => ?_) (h.dc.keep fun q hq => (hc.block q (by have:=h.dc.lt; omega) (by omega)).trans (hch.block q (by have:=h.dc.lt; omega) (by omega))) ?_ (by omega) (by omega) v'
  ·rcases hq with a | a
   ·have:=h.sin q a
    exact ⟨.inl a,by omega,by omega⟩
   ·exact ⟨.inr (by omega),by omega,by omega⟩
  ·rcases List.mem_append.1 ht' with e | e
   ·exact hok t' e
   ·rw [List.mem_singleton.1 e]; exact htk
  ·exact ⟨hc.os.trans (hch.os.trans h.gw.os),hc.tape.trans (hch.tape.trans h.gw.tape),hc.output.trans (hch.output.trans h.gw.output),by omega,fun q hq hne => (hc.block q (by omega) (by omega)).trans ((hch.block q (by omega) (by omega)).trans (h.gw.block q hq hne))⟩
end
end Go.Proofs.YtfinaekeoeeogaaGreatDoor

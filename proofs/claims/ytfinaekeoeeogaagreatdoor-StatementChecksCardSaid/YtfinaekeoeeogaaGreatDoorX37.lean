/- A region that draws its order, and whose last operation comes behind all others, through o And more. -/
import Derived.Test.YtfinaekeoeeogaaGreatDoorX04
import Derived.Test.YtfinaekeoeeogaaGreatDoorX01
set_option linter.unusedVariables false
set_option linter.unusedSimpArgs false
namespace Go.Proofs.YtfinaekeoeeogaaGreatDoor
section
variable {P : Program} {Q : Exit → Act → World → Prop}
def depM (x : Oper) : Nat := x.after.foldl (fun m e => if Region.binds .any e then m ||| 2 ^ e.on else m) 0
def closM : List Oper → Nat → Nat
 | [],m => m
 | x :: r,m => closM r (if m.testBit r.length then m ||| depM x else m)
def lastC (l : List Oper) (o : Oper) : Bool :=
 (l.zipIdx.all fun (x,i) => x.after.all fun e => !Region.binds .any e || decide (e.on < i)) &&
 (o.after.all fun e => !Region.binds .any e || decide (e.on < l.length)) &&
 ((List.range l.length).all fun j => (closM l.reverse (depM o)).testBit j) &&
 (l.all fun x => match x.guard with | none => true | some (j,_) => decide (j < l.length))
variable {l : List Oper} {o : Oper}
structure LastOk2 (l : List Oper) (o : Oper) : Prop where
  lt : ∀ i x, l[i]? = some x → ∀ e ∈ x.after, Region.binds .any e = true → e.on < i
  on : ∀ e ∈ o.after, Region.binds .any e = true → e.on < l.length
  all : ∀ j, j < l.length → (closM l.reverse (depM o)).testBit j = true
  guard : ∀ x ∈ l, ∀ j b, x.guard = some (j, b) → j < l.length
theorem lastC_spec (h : lastC l o = true) : LastOk2 l o := by
 unfold lastC at h
 simp only [Bool.and_eq_true] at h
 obtain ⟨⟨⟨h1,h2⟩,h3⟩,h4⟩:=h
 refine ⟨fun i x hx e he hb => ?_,fun e he hb => ?_,fun j hj => ?_,fun x hx j b hg => ?_⟩
 ·rw [List.all_eq_true] at h1
  have hm:(x,i) ∈ l.zipIdx:=by
   rw [List.mem_zipIdx_iff_getElem?]; exact hx
  have:=h1 _ hm
  simp only [Array.all_eq_true'] at this
  have:=this e he
  simpa [hb] using this
 ·rw [Array.all_eq_true'] at h2
  have:=h2 e he
  simpa [hb] using this
 ·rw [List.all_eq_true] at h3
  exact h3 j (List.mem_range.2 hj)
 ·rw [List.all_eq_true] at h4
  have:=h4 x hx
  rw [hg] at this
  simpa using this
theorem depM_spec (x : Oper) {Lst : Nat → Prop} (h : ∀ e ∈ x.after,Region.binds .any e = true → Lst e.on) : ∀ j,(depM x).testBit j = true → Lst j := by
 unfold depM
 refine Array.foldl_induction (motive:=fun _ (m:Nat) => ∀ j,m.testBit j=true → Lst j) (fun j hj => by simp at hj) (fun i m hm j hj => ?_)
 split at hj
 ·rename_i hb
  rw [Nat.testBit_or,Bool.or_eq_true] at hj
  rcases hj with hj | hj
  ·exact hm j hj
  ·rw [Nat.testBit_two_pow] at hj
   have:(x.after[i]).on=j:=by simpa using hj
   rw [← this]; exact h _ (Array.getElem_mem _) hb
 ·exact hm j hj
theorem closM_spec {Lst : Nat → Prop} (cl : ∀ k x,l[k]? = some x → Lst k → ∀ e ∈ x.after,Region.binds .any e = true → Lst e.on) :
  ∀ (r:List Oper) (m:Nat),(∀ (i:Nat) (x:Oper),r.reverse[i]?=some x → l[i]?=some x) → (∀ j,m.testBit j=true → Lst j) → ∀ j,(closM r m).testBit j=true → Lst j:=by
 intro r
 induction r with
 | nil => intro m _ hm j hj; exact hm j hj
 | cons x r ih =>
  intro m hr hm j hj
  unfold closM at hj
  refine ih _ (fun i y hy => hr i y ?_) (fun j hj => ?_) j hj
  ·rw [List.reverse_cons,List.getElem?_append_left (List.getElem?_eq_some_iff.1 hy).1]; exact hy
  ·split at hj
   ·rename_i hb
    rw [Nat.testBit_or,Bool.or_eq_true] at hj
    rcases hj with hj | hj
    ·exact hm j hj
    ·have hx:l[r.length]?=some x:=hr _ _ (by rw [List.reverse_cons,List.getElem?_append_right (by simp)]; simp)
     exact depM_spec x (cl r.length x hx (hm _ hb)) j hj
   ·exact hm j hj
theorem ready_lt2 {A B : Array Bool} (ok : LastOk2 l o) (hf : Fits l.length A B) {i : Nat} (hi : i < l.length) :
  i ∈ Region.ready .any (l ++ [o]).toArray A ↔ i ∈ Region.ready .any l.toArray B:=by
 rw [mem_ready,mem_ready,(hf.1 i hi).1,last_get hi]
 refine and_congr Iff.rfl ⟨fun ⟨x,hx,h⟩ => ⟨x,hx,fun e he hb => ?_⟩,fun ⟨x,hx,h⟩ => ⟨x,hx,fun e he hb => ?_⟩⟩
 ·have hx':l[i]?=some x:=by simpa using hx
  have hlt:=ok.lt i x hx' e he hb
  rw [← (hf.1 e.on (by omega)).2]; exact h e he hb
 ·have hx':l[i]?=some x:=by simpa using hx
  have hlt:=ok.lt i x hx' e he hb
  rw [(hf.1 e.on (by omega)).2]; exact h e he hb
theorem all_listed2 {B : Array Bool} (ok : LastOk2 l o) (hB : B.size = l.length) (h : Region.ready .any l.toArray B = []) : ∀ j,j < l.length → B.getD j false = true := by
 intro j
 induction j using Nat.strongRecOn with
 | _ j ih =>
  intro hj
  cases hb:B.getD j false with
  | true => rfl
  | false =>
   exfalso
   have:j ∈ Region.ready .any l.toArray B:=by
    rw [mem_ready]
    refine ⟨by rw [getD_two (by omega)]; exact hb,l[j],by simp [hj],fun e he hbd => ?_⟩
    have:=ok.lt j l[j] (List.getElem?_eq_getElem hj) e he hbd
    exact ih e.on this (by omega)
   rw [h] at this; cases this
theorem wpAny_end2 {A B : Array Bool} (ok : LastOk2 l o) (hf : Fits l.length A B) (hn : A.getD l.length true = false) (h0 : Region.ready .any l.toArray B = []) {a : Act} {w : World}
  (h:wpOp P (l ++ [o]).toArray Q l.length (Q .normal) a w) (fuel:Nat):wpAny P .any (l ++ [o]).toArray Q (fuel+1) A a w:=by
 have hall:=all_listed2 ok hf.2.2 h0
 have hA:∀ j,j < l.length → A.getD j false=true:=fun j hj => by rw [(hf.1 j hj).2]; exact hall j hj
 have hnr:l.length ∈ Region.ready .any (l ++ [o]).toArray A:=by
  rw [mem_ready]
  exact ⟨hn,o,last_get_n,fun e he hb => hA e.on (ok.on e he hb)⟩
 refine ⟨fun h => (by rw [h] at hnr; cases hnr),fun i hi => ?_⟩
 have hin:i=l.length:=by
  rcases Nat.lt_or_ge i l.length with hlt | hge
  ·have:=(ready_lt2 ok hf hlt).1 hi
   rw [h0] at this; cases this
  ·obtain ⟨_,x,hx,_⟩:=mem_ready.1 hi
   have:=(Array.getElem?_eq_some_iff.1 hx).1
   simp at this; omega
 subst hin
 refine wpOp_mono (fun a' w' hq => wpAny_done' (ready_done (n:=l.length) rfl (by simp [hf.2.1]) (fun j hj => ?_)) hq fuel) h
 by_cases e:l.length=j
 ·subst e; simp [Array.getElem?_setIfInBounds,hf.2.1]
 ·rw [getD_set_ne false e]; exact hA j (by omega)
theorem closed_set (ok : LastOk2 l o) {A B : Array Bool} (hf : Fits l.length A B) (hcl : ∀ k x,l[k]? = some x → A.getD k false = true → ∀ e ∈ x.after,Region.binds .any e = true → A.getD e.on false = true) {i : Nat} (hi : i < l.length) (hr : i ∈ Region.ready .any (l ++ [o]).toArray A) :
  ∀ k x,l[k]?=some x → (A.setIfInBounds i true).getD k false=true → ∀ e ∈ x.after,Region.binds .any e=true → (A.setIfInBounds i true).getD e.on false=true:=by
 intro k x hx hk e he hb
 have up:∀ j,A.getD j false=true → (A.setIfInBounds i true).getD j false=true:=fun j hj => by
  by_cases ej:i=j
  ·subst ej; simp [Array.getElem?_setIfInBounds,hf.2.1,show i < l.length+1 by omega]
  ·rw [getD_set_ne false ej]; exact hj
 refine up _ ?_
 by_cases ek:i=k
 ·subst ek
  obtain ⟨_,y,hy,h⟩:=mem_ready.1 hr
  rw [last_get hi] at hy
  have hy':l[i]?=some y:=by simpa using hy
  rw [hx] at hy'
  injection hy' with hy'
  subst hy'
  exact h e he hb
 ·rw [getD_set_ne false ek] at hk
  exact hcl k x hx hk e he hb
theorem wpAny_last2 (ok : LastOk2 l o) : ∀ (fuel : Nat) (A B : Array Bool) (a : Act) (w : World),Fits l.length A B → A.getD l.length true = false → (∀ k x,l[k]? = some x → A.getD k false = true → ∀ e ∈ x.after,Region.binds .any e = true → A.getD e.on false = true) →
  wpAny P .any l.toArray (LastQ P (l ++ [o]).toArray l.length Q) fuel B a w → wpAny P .any (l ++ [o]).toArray Q (fuel+1) A a w:=by
 intro fuel
 induction fuel with
 | zero =>
  intro A B a w hf hn hcl h
  exact wpAny_end2 ok hf hn h.1 h.2 0
 | succ fuel ih =>
  intro A B a w hf hn hcl h
  by_cases h0:Region.ready .any l.toArray B = []
  ·exact wpAny_end2 ok hf hn h0 (h.1 h0) (fuel+1)
  ·refine ⟨fun hr => ?_,fun i hi => ?_⟩
   ·exfalso
    obtain ⟨i,hi⟩:=List.exists_mem_of_ne_nil _ h0
    have hil:i < l.length:=by
     obtain ⟨_,x,hx,_⟩:=mem_ready.1 hi
     simpa using (Array.getElem?_eq_some_iff.1 hx).1
    have:=(ready_lt2 ok hf hil).2 hi
    rw [hr] at this; cases this
   ·rcases Nat.lt_or_ge i l.length with hlt | hge
    ·have h2:=h.2 i ((ready_lt2 ok hf hlt).1 hi)
     have h3:wpOp P (l ++ [o]).toArray Q i (wpAny P .any l.toArray (LastQ P (l ++ [o]).toArray l.length Q) fuel (B.setIfInBounds i true)) a w:=by
      have hlt':i < l.toArray.size:=by simpa using hlt
      unfold wpOp at h2 ⊢
      rw [last_get hlt]
      have hg:l.toArray[i]?=some l[i]:=by simp [hlt]
      rw [hg] at h2 ⊢
      dsimp only at h2 ⊢
      have hy:∀ g,Region.wanted l[i] (yielded (l ++ [o]).toArray g)=Region.wanted l[i] (yielded l.toArray g):=fun g => by
       unfold Region.wanted
       cases hgd:l[i].guard with
       | none => rfl
       | some jb =>
        obtain ⟨j,b⟩:=jb
        have:=ok.guard l[i] (List.getElem_mem hlt) j b hgd
        dsimp only
        unfold yielded
        rw [last_get this]
      rw [hy]
      split
      ·rename_i hw
       rw [if_pos hw] at h2
       rcases h2 with h2 | ⟨h2,h4⟩
       ·exact .inl (Oper.wp_lastQ h2)
       ·exact .inr ⟨h2,h4⟩
      ·rename_i hw
       rw [if_neg hw] at h2
       exact h2
     refine wpOp_mono (fun a' w' hk => ih _ _ _ _ (hf.set hlt) (by rw [getD_set_ne true (by omega)]; exact hn) (closed_set ok hf hcl hlt hi) hk) h3
    ·exfalso
     have hin:i=l.length:=by
      obtain ⟨_,x,hx,_⟩:=mem_ready.1 hi
      have:=(Array.getElem?_eq_some_iff.1 hx).1
      simp at this; omega
     subst hin
     obtain ⟨_,x,hx,hall⟩:=mem_ready.1 hi
     rw [last_get_n] at hx
     injection hx with hx; subst hx
     have:Region.ready .any l.toArray B = []:=by
      apply List.eq_nil_iff_forall_not_mem.2
      intro j hj
      obtain ⟨h5,y,hy,_⟩:=mem_ready.1 hj
      have hjl:j < l.length:=by simpa using (Array.getElem?_eq_some_iff.1 hy).1
      have hA:=closM_spec (l:=l) (Lst:=fun k => A.getD k false=true) hcl l.reverse (depM o) (fun i x hx => by rwa [List.reverse_reverse] at hx) (depM_spec o (Lst:=fun k => A.getD k false=true) hall) j (ok.all j hjl)
      rw [(hf.1 j hjl).2,← getD_two (by rw [hf.2.2]; exact hjl),h5] at hA
      cases hA
     exact h0 this
theorem wp_region_last2 {id : Nat} {a : Act} {w : World} (hm : P.follows .mixedOrders = true) (hB : lastC l o = true)
  (h:wpAny P .any l.toArray (LastQ P (l ++ [o]).toArray l.length Q) l.length (Array.replicate l.length false) a w.drew):(Code.region id (l ++ [o]).toArray true).wp P Q a w:=by
 refine wp_region_any hm ?_
 have e:(l ++ [o]).toArray.size=l.length+1:=by simp
 rw [e]
 refine wpAny_last2 (lastC_spec hB) l.length _ _ a _ ⟨fun j hj => ?_,by simp,by simp⟩ (by simp) (fun k x hx hk => by
  exfalso
  have hl:k < l.length:=(List.getElem?_eq_some_iff.1 hx).1
  simp [show k < l.length+1 by omega] at hk) h
 simp [hj,show j < l.length+1 by omega]
end
section
variable {P : Program} {ops : Array Oper} {Q : Exit → Act → World → Prop} {S : World → Prop} {z : Nat}
def Closed (ops : Array Oper) (listed : Array Bool) : Prop := ∀ k x,ops[k]? = some x → listed.getD k false = true → ∀ e ∈ x.after,Region.binds .any e = true → listed.getD e.on false = true
def closedB (ops : Array Oper) (listed : Array Bool) : Bool := (List.range ops.size).all fun k => !listed.getD k false || (match ops[k]? with | some x => x.after.all fun e => !Region.binds .any e || listed.getD e.on false | none => true)
theorem closedB_spec {listed : Array Bool} (h : closedB ops listed = true) : Closed ops listed := by
 intro k x hx hk e he hb
 unfold closedB at h
 rw [List.all_eq_true] at h
 have h1:=h k (List.mem_range.2 (Array.getElem?_eq_some_iff.1 hx).1)
 rw [hk,hx] at h1
 simp only [Bool.not_true,Bool.false_or,Array.all_eq_true'] at h1
 have:=h1 e he
 simpa [hb] using this
def wpAnyZ (P : Program) (ops : Array Oper) (Q : Exit → Act → World → Prop) (S : World → Prop) (z : Nat) : Nat → Array Bool → Act → World → Prop
 | 0,listed,a,w => Region.ready .any ops listed = [] ∧ Q .normal a w
 | fuel+1,listed,a,w =>
  (Region.ready .any ops listed = [] → Q .normal a w) ∧
  ∀ i ∈ Region.ready .any ops listed,wpOp P ops Q i (fun a' w' => ((listed.setIfInBounds i true).getD z false=true ∨ S w') ∧ wpAnyZ P ops Q S z fuel (listed.setIfInBounds i true) a' w') a w
theorem wpAny_of_Z : ∀ (fuel : Nat) (listed : Array Bool) (a : Act) (w : World),wpAnyZ P ops Q S z fuel listed a w → wpAny P .any ops Q fuel listed a w
 | 0,_,_,_,h => h
 | fuel+1,_,_,_,h => ⟨h.1,fun i hi => wpOp_mono (fun a' w' h' => wpAny_of_Z fuel _ a' w' h'.2) (h.2 i hi)⟩
theorem getD_up {A : Array Bool} {i z : Nat} (h : A.getD z false = true) : (A.setIfInBounds i true).getD z false = true := by
 by_cases e:i=z
 ·subst e
  have hl:i < A.size:=by
   refine Nat.lt_of_not_le fun hc => ?_
   simp [Array.getElem?_eq_none hc] at h
  simp [Array.getElem?_setIfInBounds,hl]
 ·rw [getD_set_ne false e]; exact h
theorem Closed.set {A : Array Bool} (h : Closed ops A) {i : Nat} (hr : i ∈ Region.ready .any ops A) : Closed ops (A.setIfInBounds i true) := by
 intro k x hx hk e he hb
 refine getD_up ?_
 by_cases ek:i=k
 ·subst ek
  obtain ⟨_,y,hy,hall⟩:=mem_ready.1 hr
  rw [hx] at hy
  injection hy with hy
  subst hy
  exact hall e he hb
 ·rw [getD_set_ne false ek] at hk
  exact h k x hx hk e he hb
theorem wpAnyZ_first {i : Nat} {oi : Oper} {v : Value} (hi : ops[i]? = some oi) (hiz : i ≠ z) (hsel : ∀ (j : Nat) (o : Oper) cs b,ops[j]? = some o → o.op ≠ .select cs b)
  (hQ:∀ c a w,Q (.panic c) (a.put oi.dst v) w → Q (.panic c) a w) (S':World → Prop)
  (hS':∀ listed w,Closed ops listed → listed.getD i true=false → (listed.getD z false=true ∨ S w) → S' w) :
  ∀ (fuel:Nat) (listed:Array Bool) (a:Act) (w:World),Closed ops listed →
   (∀ j oj,ops[j]?=some oj → j ≠ i → listed.getD j true=false → (∀ e ∈ oj.after,Region.binds .any e=true → e.on ≠ i) → oi.apart ops oj=true) →
   i ∈ Region.ready .any ops listed → YieldsIf P ops S' oi v a → (listed.getD z false=true ∨ S w) →
   wpAnyZ P ops Q S z fuel (listed.setIfInBounds i true) (a.put oi.dst v) w → wpAnyZ P ops Q S z (fuel+1) listed a w:=by
 intro fuel
 induction fuel with
 | zero =>
  intro listed a w hcl _ hr hy hS H
  refine ⟨fun h => (by rw [h] at hr; cases hr),fun j hj => ?_⟩
  by_cases hji:j=i
  ·subst hji; exact hy.wpOp hi (hS' _ _ hcl (mem_ready.1 hr).1 hS) ⟨hS.imp getD_up id,H⟩
  ·have:=ready_mono hj hji
   rw [H.1] at this
   cases this
 | succ fuel ih =>
  intro listed a w hcl hfree hr hy hS H
  refine ⟨fun h => (by rw [h] at hr; cases hr),fun j hj => ?_⟩
  by_cases hji:j=i
  ·subst hji; exact hy.wpOp hi (hS' _ _ hcl (mem_ready.1 hr).1 hS) ⟨hS.imp getD_up id,H⟩
  ·have h1:=H.2 j (ready_mono hj hji)
   obtain ⟨hjun,oj,hoj,hall⟩:=mem_ready.1 hj
   have hnot:∀ e ∈ oj.after,Region.binds .any e=true → e.on ≠ i:=fun e he hb heq => by
    have h1:=hall e he hb
    have h0:=(mem_ready.1 hr).1
    rw [heq] at h1
    rcases Nat.lt_or_ge i listed.size with h' | h'
    ·simp [h'] at h0 h1; rw [h0] at h1; cases h1
    ·simp [Array.getElem?_eq_none h'] at h1
   have h2:=wpOp_putIf hoj (hfree j oj hoj hji hjun hnot) (fun cs b => hsel i oi cs b hi) (fun cs b => hsel j oj cs b hoj) hQ hy h1
   have hfree':∀ k ok,ops[k]?=some ok → k ≠ i → (listed.setIfInBounds j true).getD k true=false →
     (∀ e ∈ ok.after,Region.binds .any e=true → e.on ≠ i) → oi.apart ops ok=true:=fun k ok hk hki hun hno => by
    refine hfree k ok hk hki ?_ hno
    by_cases hjk:j=k
    ·subst hjk; exact hjun
    ·rw [getD_set_ne true hjk] at hun; exact hun
   refine wpOp_mono (fun a' w' h3 => ?_) h2
   have hc:(listed.setIfInBounds j true).getD z false=true ∨ S w':=by
    rcases h3.2.1 with h | h
    ·rw [Array.setIfInBounds_comm _ _ (Ne.symm hji),getD_set_ne false hiz] at h; exact .inl h
    ·exact .inr h
   refine ⟨hc,ih (listed.setIfInBounds j true) a' w' (hcl.set hj) hfree' (ready_mono hr (Ne.symm hji)) h3.1 hc ?_⟩
   rw [Array.setIfInBounds_comm _ _ hji]
   exact h3.2.2
variable {oi : Oper} {v : Value} {fuel : Nat} {listed : Array Bool} {a : Act} {w : World}
theorem tkz (i : Nat) {oz : Oper} (hi : ops[i]? = some oi) (hz : ops[z]? = some oz) (hb : (Region.noSelect ops && (Region.free .any ops listed i && ((Region.ready .any ops listed).contains i && (closedB ops listed && ((closM (ops.toList.take z).reverse (depM oz)).testBit i && !(i == z)))))) = true) (hS : S w)
  (hw:Region.wanted oi (yielded ops a.tmps)=true) (hy:∀ w,S w → (execOp a.eval oi).run P w=.ok (.value v) w) (h:wpAnyZ P ops Q S z fuel (listed.setIfInBounds i true) (a.put oi.dst v) w)
  (hQ:∀ c a w,Q (.panic c) (a.put oi.dst v) w → Q (.panic c) a w:=by exact fun _ _ _ h => h):wpAnyZ P ops Q S z (fuel+1) listed a w:=by
 simp only [Bool.and_eq_true] at hb
 obtain ⟨h1,h2,h3,h4,h5,h6⟩:=hb
 have hne:i ≠ z:=fun e => by subst e; simp at h6
 refine wpAnyZ_first hi hne (Region.noSelect_spec h1) hQ S (fun L W hcl hun hor => ?_) fuel listed a w (closedB_spec h4) (Region.free_spec hi h2) (by simpa using h3) (Or.inl ⟨hw,hy⟩) (.inr hS) h
 rcases hor with hor | hor
 ·exfalso
  have hlt:z < ops.size:=(Array.getElem?_eq_some_iff.1 hz).1
  have hl:L.getD i false=true:=by
   refine closM_spec (l:=ops.toList) (Lst:=fun k => L.getD k false=true) (fun k x hx hk e he hb => hcl k x (by simpa using hx) hk e he hb) (ops.toList.take z).reverse (depM oz) (fun i x hx => ?_) (depM_spec oz (Lst:=fun k => L.getD k false=true) (fun e he hb => hcl z oz hz hor e he hb)) i h5
   rw [List.reverse_reverse,List.getElem?_take] at hx
   split at hx
   ·exact hx
   ·cases hx
  rcases Nat.lt_or_ge i L.size with h' | h'
  ·simp [h'] at hun hl; rw [hun] at hl; cases hl
  ·simp [Array.getElem?_eq_none h'] at hl
 ·exact hor
theorem tkw (i : Nat) (hi : ops[i]? = some oi) (hb : (Region.noSelect ops && (Region.free .any ops listed i && ((Region.ready .any ops listed).contains i && (closedB ops listed && !(i == z))))) = true) (hS : listed.getD z false = true ∨ S w)
  (hw:Region.wanted oi (yielded ops a.tmps)=true) (hy:∀ w,(execOp a.eval oi).run P w=.ok (.value v) w) (h:wpAnyZ P ops Q S z fuel (listed.setIfInBounds i true) (a.put oi.dst v) w)
  (hQ:∀ c a w,Q (.panic c) (a.put oi.dst v) w → Q (.panic c) a w:=by exact fun _ _ _ h => h):wpAnyZ P ops Q S z (fuel+1) listed a w:=by
 simp only [Bool.and_eq_true] at hb
 obtain ⟨h1,h2,h3,h4,h6⟩:=hb
 have hne:i ≠ z:=fun e => by subst e; simp at h6
 exact wpAnyZ_first hi hne (Region.noSelect_spec h1) hQ (fun _ => True) (fun _ _ _ _ _ => trivial) fuel listed a w (closedB_spec h4) (Region.free_spec hi h2) (by simpa using h3) (Or.inl ⟨hw,fun w _ => hy w⟩) hS h
theorem tq (i : Nat) {oz : Oper} (hi : ops[i]? = some oi) (hz : ops[z]? = some oz) (h : wpAnyZ P ops Q S z fuel (listed.setIfInBounds i true) (a.put oi.dst v) w)
  (hb:(Region.noSelect ops && (Region.free .any ops listed i && ((Region.ready .any ops listed).contains i && (closedB ops listed && ((closM (ops.toList.take z).reverse (depM oz)).testBit i && !(i == z))))))=true:=by kernel_rfl) (hS:S w:=by assumption)
  (hw:Region.wanted oi (yielded ops a.tmps)=true:=by kernel_rfl) (hy:∀ w,S w → (execOp a.eval oi).run P w=.ok (.value v) w:=by (intro w hSw; (try dsimp only at hSw); (try go_split_ands); go_simp; (try with_reducible rfl)))
  (hQ:∀ c a w,Q (.panic c) (a.put oi.dst v) w → Q (.panic c) a w:=by exact fun _ _ _ h => h):wpAnyZ P ops Q S z (fuel+1) listed a w:=tkz i hi hz hb hS hw hy h hQ
theorem tw (i : Nat) (hi : ops[i]? = some oi) (hS : listed.getD z false = true ∨ S w) (h : wpAnyZ P ops Q S z fuel (listed.setIfInBounds i true) (a.put oi.dst v) w)
  (hb:(Region.noSelect ops && (Region.free .any ops listed i && ((Region.ready .any ops listed).contains i && (closedB ops listed && !(i == z)))))=true:=by kernel_rfl)
  (hw:Region.wanted oi (yielded ops a.tmps)=true:=by kernel_rfl) (hy:∀ w,(execOp a.eval oi).run P w=.ok (.value v) w:=by (intro w; go_simp; (try with_reducible rfl)))
  (hQ:∀ c a w,Q (.panic c) (a.put oi.dst v) w → Q (.panic c) a w:=by exact fun _ _ _ h => h):wpAnyZ P ops Q S z (fuel+1) listed a w:=tkw i hi hb hS hw hy h hQ
def AllReadyZ (P : Program) (ops : Array Oper) (Q : Exit → Act → World → Prop) (S : World → Prop) (z fuel : Nat) (listed : Array Bool) (a : Act) (w : World) (rs : List Nat) : Prop :=
 ∀ i ∈ rs,wpOp P ops Q i (fun a' w' => ((listed.setIfInBounds i true).getD z false=true ∨ S w') ∧ wpAnyZ P ops Q S z fuel (listed.setIfInBounds i true) a' w') a w
theorem AllReadyZ.nil : AllReadyZ P ops Q S z fuel listed a w [] := fun _ h => by cases h
theorem AllReadyZ.cons {i : Nat} {o : Oper} {rs : List Nat} (ho : ops[i]? = some o)
  (h:∀ K':Act → World → Prop,Shut (∀ a w,((listed.setIfInBounds i true).getD z false=true ∨ S w) → wpAnyZ P ops Q S z fuel (listed.setIfInBounds i true) a w → K' a w) → if Region.wanted o (yielded ops a.tmps)=true then Oper.wp P o a w K' Q else K' (a.put o.dst undef) w)
  (hs:AllReadyZ P ops Q S z fuel listed a w rs):AllReadyZ P ops Q S z fuel listed a w (i :: rs):=fun j hj => by
 rcases List.mem_cons.1 hj with rfl | hj
 ·exact Go.wpOp_step ho (fun K' hK => h K' (fun a w hS hW => hK a w ⟨hS,hW⟩))
 ·exact hs j hj
theorem wpAnyZ_ready {rs : List Nat} (hr : Region.ready .any ops listed = rs) (hne : rs ≠ []) (h : AllReadyZ P ops Q S z fuel listed a w rs) : wpAnyZ P ops Q S z (fuel + 1) listed a w :=
 ⟨fun h0 => absurd (hr ▸ h0) hne,hr ▸ h⟩
theorem wpAnyZ_done (hr : Region.ready .any ops listed = []) (h : Q .normal a w) : ∀ fuel,wpAnyZ P ops Q S z fuel listed a w
 | 0 => ⟨hr,h⟩
 | _+1 => ⟨fun _ => h,by rw [hr]; simp⟩
theorem wp_region_lastZ {id : Nat} {a : Act} {w : World} (L : List Oper) (o : Oper) (S : World → Prop) (z : Nat) (hm : P.follows .mixedOrders = true) (hL : L.dropLast ++ [o] = L) (hB : lastC L.dropLast o = true)
  (h:wpAnyZ P L.dropLast.toArray (LastQ P L.toArray L.dropLast.length Q) S z L.dropLast.length (Array.replicate L.dropLast.length false) a w.drew):(Code.region id L.toArray true).wp P Q a w:=by
 have:=wp_region_last2 (P:=P) (Q:=Q) (l:=L.dropLast) (o:=o) (id:=id) (a:=a) (w:=w) hm hB (by rw [hL]; exact wpAny_of_Z _ _ _ _ h)
 rwa [hL] at this
end
end Go.Proofs.YtfinaekeoeeogaaGreatDoor

/- Words for memory: trees as a reader makes them (no term has numbers of terms behind it). And more. -/
import Derived.Test.YtgdngfdeeadlnaaGreatDoorY06
set_option linter.unusedVariables false
set_option linter.unusedSimpArgs false
namespace Go.Proofs.YtgdngfdeeadlnaaGreatDoor
open Go.RowKit Num
def TermZ (w : World) (b : Nat) (t : Trm) : Prop := w.cell? ⟨b,0,none⟩ = some (.int .i64 t.kind) ∧ w.cell? ⟨b,1,none⟩ = some (.int .i64 t.num) ∧ w.cell? ⟨b,2,none⟩ = some (.int .i64 t.yrs) ∧
 w.cell? ⟨b,3,none⟩=some (.string t.field) ∧ w.cell? ⟨b,4,none⟩=some (.string t.text) ∧ w.cell? ⟨b,5,none⟩=some (.slice none 0 0) ∧ t.args = []
theorem TermZ.keep {w w' : World} {b : Nat} {t : Trm} (h : TermZ w b t) (hb : w'.heap[b]? = w.heap[b]?) : TermZ w' b t := by
 obtain ⟨h0,h1,h2,h3,h4,h5,h6⟩:=h
 have e:∀ o,w'.cell? ⟨b,o,none⟩=w.cell? ⟨b,o,none⟩:=fun o => World.cell?_of_block hb
 exact ⟨(e _).trans h0,(e _).trans h1,(e _).trans h2,(e _).trans h3,(e _).trans h4,(e _).trans h5,h6⟩
def TreeZ (w : World) (S : Nat → Prop) : Nat → Value → Tree → Prop
 | 0,_,_ => False
 | d+1,v,.node t xs => ∃ b,v=.pointer (some ⟨b,0,none⟩) ∧ S b ∧ TermZ w b t ∧ ∃ A n c,w.cell? ⟨b,6,none⟩=some (.slice A n c) ∧ n=xs.length ∧ n ≤ c ∧
  (0 < n → ∃ g off,A=some ⟨g,off,none⟩ ∧ S g ∧ ∀ k x,xs[k]?=some x → ∃ p,w.cell? ⟨g,off+k,none⟩=some p ∧ TreeZ w S d p x)
theorem TreeZ.keep {w w' : World} {S : Nat → Prop} (hk : ∀ b,S b → w'.heap[b]? = w.heap[b]?) : ∀ {d v T},TreeZ w S d v T → TreeZ w' S d v T := by
 intro d
 induction d with
 | zero => intro v T h; exact h.elim
 | succ d ih =>
  intro v T h
  obtain ⟨t,xs⟩:=T
  obtain ⟨b,h1,h2,h3,A,n,c,h4,h5,h6,h7⟩:=h
  refine ⟨b,h1,h2,h3.keep (hk b h2),A,n,c,(World.cell?_of_block (hk b h2)).trans h4,h5,h6,fun hn => ?_⟩
  obtain ⟨g,off,hA,hg,hc⟩:=h7 hn
  refine ⟨g,off,hA,hg,fun k x hx => ?_⟩
  obtain ⟨p,hp,ht⟩:=hc k x hx
  exact ⟨p,(World.cell?_of_block (hk g hg)).trans hp,ih ht⟩
theorem TreeZ.mono {w : World} {S S' : Nat → Prop} {d : Nat} {v : Value} {T : Tree} (h : TreeZ w S d v T) (hk : ∀ b,S b → S' b) : TreeZ w S' d v T := by
 induction d generalizing v T with
 | zero => exact h.elim
 | succ d ih =>
  obtain ⟨t,xs⟩:=T
  obtain ⟨b,h1,h2,h3,A,n,c,h4,h5,h6,h7⟩:=h
  refine ⟨b,h1,hk b h2,h3,A,n,c,h4,h5,h6,fun hn => ?_⟩
  obtain ⟨g,off,hA,hg,hc⟩:=h7 hn
  refine ⟨g,off,hA,hk g hg,fun k x hx => ?_⟩
  obtain ⟨p,hp,ht⟩:=hc k x hx
  exact ⟨p,hp,ih ht⟩
theorem TreeZ.deeper {w : World} {S : Nat → Prop} {d f : Nat} {v : Value} {T : Tree} (h : TreeZ w S d v T) (hf : d ≤ f) : TreeZ w S f v T := by
 induction d generalizing f v T with
 | zero => exact h.elim
 | succ d ih =>
  obtain ⟨f,rfl⟩:∃ g,f=g+1:=⟨f - 1,by omega⟩
  obtain ⟨t,xs⟩:=T
  obtain ⟨b,h1,h2,h3,A,n,c,h4,h5,h6,h7⟩:=h
  refine ⟨b,h1,h2,h3,A,n,c,h4,h5,h6,fun hn => ?_⟩
  obtain ⟨g,off,hA,hg,hc⟩:=h7 hn
  refine ⟨g,off,hA,hg,fun k x hx => ?_⟩
  obtain ⟨p,hp,ht⟩:=hc k x hx
  exact ⟨p,hp,ih ht (by omega)⟩
theorem TreeZ.ptr {w : World} {S : Nat → Prop} {d : Nat} {v : Value} {T : Tree} (h : TreeZ w S d v T) : ∃ b,v = .pointer (some ⟨b,0,none⟩) ∧ S b := by
 cases d with
 | zero => exact h.elim
 | succ d => obtain ⟨t,xs⟩:=T; obtain ⟨b,h1,h2,_⟩:=h; exact ⟨b,h1,h2⟩
def KidZ (w : World) (S : Nat → Prop) (d : Nat) (ps : List Value) (xs : List Tree) : Prop := ∀ (i : Nat) (x : Tree),xs[i]? = some x → ∃ p,ps[i]? = some p ∧ TreeZ w S d p x
theorem KidZ.keep {w w' : World} {S T : Nat → Prop} {d : Nat} {ps : List Value} {xs : List Tree} (h : KidZ w S d ps xs) (hk : ∀ b,S b → w'.heap[b]? = w.heap[b]?) (hm : ∀ b,S b → T b) : KidZ w' T d ps xs := by
 intro i x hx
 obtain ⟨p,hp,ht⟩:=h i x hx
 exact ⟨p,hp,(ht.keep hk).mono hm⟩
theorem KidZ.snoc {w : World} {S : Nat → Prop} {d : Nat} {ps : List Value} {xs : List Tree} {p : Value} {x : Tree} (h : KidZ w S d ps xs) (hl : ps.length = xs.length) (hx : TreeZ w S d p x) : KidZ w S d (ps ++ [p]) (xs ++ [x]) := by
 intro i y hy
 rcases Nat.lt_or_ge i xs.length with hi | hi
 ·rw [List.getElem?_append_left hi] at hy
  obtain ⟨q,hq,ht⟩:=h i y hy
  exact ⟨q,by rw [List.getElem?_append_left (by omega)]; exact hq,ht⟩
 ·rw [List.getElem?_append_right hi] at hy
  have h0:i - xs.length=0:=by
   rcases Nat.eq_zero_or_pos (i - xs.length) with h | h
   ·exact h
   ·rw [List.getElem?_eq_none (by simp; omega)] at hy; cases hy
  rw [h0] at hy
  injection hy with hy
  subst hy
  exact ⟨p,by rw [List.getElem?_append_right (by omega),show i - ps.length=0 by omega]; rfl,hx⟩
def tmCell (t : Trm) (u : Value) : List Value := [.int .i64 t.kind,.int .i64 t.num,.int .i64 t.yrs,.string t.field,.string t.text,u]
def tmsC (L : List Trm) (us : Nat → Value) : List Value := (List.range (6 * L.length)).map fun j => (tmCell (trmAt L (j / 6)) (us (j / 6))).getD (j % 6) undef
theorem tmsC_len (L : List Trm) (us : Nat → Value) : (tmsC L us).length = L.length * 6 := by simp [tmsC]; omega
theorem tmsC_get (L : List Trm) (us : Nat → Value) (j : Nat) (h : j < 6 * L.length) : (tmsC L us)[j]? = some ((tmCell (trmAt L (j / 6)) (us (j / 6))).getD (j % 6) undef) := by
 unfold tmsC; rw [List.getElem?_map,List.getElem?_range h]; rfl
theorem tmsC_none (L : List Trm) (us : Nat → Value) (j : Nat) (h : 6 * L.length ≤ j) : (tmsC L us)[j]? = none := List.getElem?_eq_none (by rw [tmsC_len]; omega)
theorem tmsC_at (L : List Trm) (us : Nat → Value) (k i : Nat) (h : k < L.length) (hi : i < 6) : (tmsC L us)[k * 6 + i]? = some ((tmCell (trmAt L k) (us k)).getD i undef) := by
 rw [tmsC_get L us _ (by omega),show (k*6+i) / 6=k by omega,show (k*6+i) % 6=i by omega]
theorem trmAt_old (L : List Trm) (t : Trm) (k : Nat) (h : k < L.length) : trmAt (L ++ [t]) k = trmAt L k := by
 unfold trmAt; rw [List.getD_eq_getElem?_getD,List.getD_eq_getElem?_getD,List.getElem?_append_left h]
theorem trmAt_new (L : List Trm) (t : Trm) : trmAt (L ++ [t]) L.length = t := by
 unfold trmAt; rw [List.getD_eq_getElem?_getD,List.getElem?_append_right (Nat.le_refl _)]; simp
theorem tmsC_congr (L : List Trm) {us us' : Nat → Value} (h : ∀ k,k < L.length → us k = us' k) : tmsC L us = tmsC L us' := by
 apply List.ext_getElem?
 intro i
 rcases Nat.lt_or_ge i (6*L.length) with hi | hi
 ·rw [tmsC_get L us i hi,tmsC_get L us' i hi,h (i / 6) (by omega)]
 ·rw [tmsC_none L us i hi,tmsC_none L us' i hi]
theorem tmsC_snoc (L : List Trm) (t : Trm) (us : Nat → Value) : tmsC (L ++ [t]) us = tmsC L us ++ tmCell t (us L.length) := by
 apply List.ext_getElem?
 intro i
 have hl:(L ++ [t]).length=L.length+1:=by simp
 rcases Nat.lt_or_ge i (6*L.length) with hi | hi
 ·rw [tmsC_get _ us i (by omega),List.getElem?_append_left (by rw [tmsC_len]; omega),tmsC_get L us i hi,trmAt_old L t _ (by omega)]
 ·rw [List.getElem?_append_right (by rw [tmsC_len]; omega),tmsC_len]
  rcases Nat.lt_or_ge i (6*L.length+6) with h2 | h2
  ·rw [tmsC_get _ us i (by omega),show i / 6=L.length by omega,trmAt_new,show i % 6=i - L.length*6 by omega]
   obtain ⟨j,hj,hj6⟩:∃ j,i - L.length*6=j ∧ j < 6:=⟨_,rfl,by omega⟩
   rw [hj]
   match j,hj6 with
   | 0,_ | 1,_ | 2,_ | 3,_ | 4,_ | 5,_ => rfl
  ·rw [tmsC_none _ us i (by omega),List.getElem?_eq_none (by simp [tmCell]; omega)]
def setA (L : List Trm) (k : Nat) (a : List Int) : List Trm := L.set k { trmAt L k with args := a }
theorem setA_len (L : List Trm) (k : Nat) (a : List Int) : (setA L k a).length = L.length := by simp [setA]
theorem setA_at (L : List Trm) (k : Nat) (a : List Int) (h : k < L.length) : trmAt (setA L k a) k = { trmAt L k with args := a } := by
 unfold setA; generalize ({ trmAt L k with args:=a } : Trm)=t
 unfold trmAt; rw [List.getD_eq_getElem?_getD,List.getElem?_set]; simp [h]
theorem setA_ne (L : List Trm) (k j : Nat) (a : List Int) (h : j ≠ k) : trmAt (setA L k a) j = trmAt L j := by
 unfold setA; generalize ({ trmAt L k with args:=a } : Trm)=t
 unfold trmAt; rw [List.getD_eq_getElem?_getD,List.getD_eq_getElem?_getD,List.getElem?_set,if_neg (fun e => h e.symm)]
theorem tmsC_set (L : List Trm) (us : Nat → Value) (k : Nat) (u : Value) (a : List Int) (h : k < L.length) : (tmsC L us).set (k * 6 + 5) u = tmsC (setA L k a) (fun j => if j = k then u else us j) := by
 apply List.ext_getElem?
 intro i
 rw [List.getElem?_set]
 rcases Nat.lt_or_ge i (6*L.length) with hi | hi
 ·rw [tmsC_get L us i hi,tmsC_get _ _ i (by rw [setA_len]; exact hi),tmsC_len]
  by_cases e:k*6+5=i
  ·rw [if_pos e,if_pos (by omega),show i / 6=k by omega,show i % 6=5 by omega]; simp [tmCell]
  ·rw [if_neg e]
   by_cases e2:i / 6=k
   ·rw [e2,setA_at L k a h]
    obtain ⟨j,hj,hj6⟩:∃ j,i % 6=j ∧ j < 5:=⟨_,rfl,by omega⟩
    rw [hj]
    match j,hj6 with
    | 0,_ | 1,_ | 2,_ | 3,_ | 4,_ => rfl
   ·rw [setA_ne L k _ a e2,if_neg e2]
 ·rw [if_neg (by omega),tmsC_none L us i hi,tmsC_none _ _ i (by rw [setA_len]; exact hi)]
structure OwnTs (w : World) (B : Nat) (v : Value) (L : List Trm) (us : Nat → Value) : Prop where
  row : w.ownsRow B 75 6 v L.length (tmsC L us)
  args : ∀ k, k < L.length → w.ownsRow B 3 1 (us k) (trmAt L k).args.length ((trmAt L k).args.map (Value.int .i64))
  apart : ∀ j k, j < L.length → k < L.length → j ≠ k → (us j).ownBlock = none ∨ (us j).ownBlock ≠ (us k).ownBlock
theorem OwnTs.nil (w : World) (B : Nat) (us : Nat → Value) : OwnTs w B (.slice none 0 0) [] us := ⟨World.ownsRow_nil _ _ _ _,fun k hk => by simp at hk,fun j k hj => by simp at hj⟩
section
variable {w w2 : World} {B : Nat} {v v' u' : Value} {L : List Trm} {us : Nat → Value} {t : Trm} {o : Obj}
theorem OwnTs.push (h : OwnTs w B v L us) (ht : t.args = []) (hown : w2.ownsRow B 75 6 v' (L.length + 1) (tmsC L us ++ tmCell t (.slice none 0 0))) (hg : (w.alloc o).grownBy w2 v.ownBlock) :
  OwnTs w2 B v' (L ++ [t]) (fun k => if k=L.length then .slice none 0 0 else us k):=by
 refine ⟨?_,fun k hk => ?_,fun j k hj hk hne => ?_⟩
 ·rw [tmsC_snoc,List.length_append]
  have e:tmsC L (fun k => if k=L.length then .slice none 0 0 else us k)=tmsC L us:=tmsC_congr L fun k hk => if_neg (by omega)
  rw [e]; simpa using hown
 ·rw [List.length_append] at hk
  by_cases e:k=L.length
  ·subst e; rw [if_pos rfl,trmAt_new,ht]; exact World.ownsRow_nil _ _ _ _
  ·rw [if_neg e,trmAt_old L t k (by simp at hk; omega)]
   have hk':k < L.length:=by simp at hk; omega
   exact ((h.args k hk').alloc o).kept hg (own_ne (h.args k hk') h.row (by decide))
 ·rw [List.length_append] at hj hk
  by_cases e:j=L.length
  ·subst e; rw [if_pos rfl]; exact .inl rfl
  ·rw [if_neg e]
   by_cases e2:k=L.length
   ·rw [if_pos e2]
    rcases hb:(us j).ownBlock with _ | g
    ·exact .inl rfl
    ·exact .inr (by simp [Value.ownBlock])
   ·rw [if_neg e2]; exact h.apart j k (by simp at hj; omega) (by simp at hk; omega) hne
theorem OwnTs.arg {g n cap : Nat} (h : OwnTs w B (.slice (some ⟨g,0,none⟩) L.length cap) L us) {k : Nat} (hk : k < L.length) {m : Int}
  (hown:w2.ownsRow B 3 1 u' ((trmAt L k).args.length+1) ((trmAt L k).args.map (Value.int .i64) ++ [.int .i64 m])) (hg:(w.alloc o).grownBy w2 (us k).ownBlock) (hw:u'.ownBlock=(us k).ownBlock ∨ u'.ownBlock=some (w.heap.size+1)) :
  OwnTs (w2.setCell ⟨g,k*6+5,none⟩ u') B (.slice (some ⟨g,0,none⟩) L.length cap) (setA L k ((trmAt L k).args ++ [m])) (fun j => if j=k then u' else us j):=by
 have hrow2:=(h.row.alloc o).kept hg (own_ne h.row (h.args k hk) (by decide))
 have hst:=World.ownsRow.stored hrow2 (k*6+5) u'
 have hne:u'.ownBlock=none ∨ u'.ownBlock ≠ some g:=by
  rcases own_ne hown hrow2 (by decide) with e | e
  ·exact .inl e
  ·exact .inr e
 refine ⟨?_,fun j hj => ?_,fun j i hj hi hji => ?_⟩
 ·rw [setA_len,← tmsC_set L us k u' _ hk]; exact hst.1
 ·rw [setA_len] at hj
  by_cases e:j=k
  ·subst e; rw [if_pos rfl,setA_at L j _ hk]
   simp only [List.length_append,List.length_cons,List.length_nil,List.map_append,List.map_cons,List.map_nil]
   exact hown.kept hst.2 hne
  ·rw [if_neg e,setA_ne L k j _ e]
   have hj2:=((h.args j hj).alloc o).kept hg (h.apart j k hj hk e)
   refine hj2.kept hst.2 ?_
   rcases own_ne hj2 hrow2 (by decide) with e' | e'
   ·exact .inl e'
   ·exact .inr e'
 ·rw [setA_len] at hj hi
  have hlt:∀ q,q < L.length → ∀ b,(us q).ownBlock=some b → b < w.heap.size:=fun q hq b hb => ((h.args q hq).lt b hb).2
  by_cases e:j=k
  ·subst e
   rw [if_pos rfl,if_neg (fun e => hji e.symm)]
   rcases hw with e' | e'
   ·rw [e']; exact h.apart j i hj hi hji
   ·rw [e']; right; intro e2; have:=hlt i hi _ e2.symm; omega
  ·rw [if_neg e]
   by_cases e2:i=k
   ·subst e2
    rw [if_pos rfl]
    rcases hw with e' | e'
    ·rw [e']; exact h.apart j i hj hi hji
    ·rw [e']
     rcases hb:(us j).ownBlock with _ | b
     ·exact .inl rfl
     ·right; intro e2; injection e2 with e2; have:=hlt j hj b hb; omega
   ·rw [if_neg e2]; exact h.apart j i hj hi hji
end
theorem flatA_snoc (g : Nat → Tree → List Trm) (x : Tree) : ∀ (xs : List Tree) (at_ : Nat),flatA g at_ (xs ++ [x]) = ((flatA g at_ xs).1 ++ [((at_ + (flatA g at_ xs).2.length : Nat) : Int)],(flatA g at_ xs).2 ++ g (at_ + (flatA g at_ xs).2.length) x) := by
 intro xs
 induction xs with
 | nil => intro at_; simp [flatA]
 | cons y ys ih =>
  intro at_
  simp only [List.cons_append,flatA]
  rw [ih]
  simp [Nat.add_assoc,List.append_assoc]
theorem flatA_len_le (g : Nat → Tree → List Trm) : ∀ (xs : List Tree) (at_ k : Nat),(flatA g at_ (xs.take k)).2.length ≤ (flatA g at_ xs).2.length := by
 intro xs
 induction xs with
 | nil => intro at_ k; simp
 | cons y ys ih =>
  intro at_ k
  cases k with
  | zero => simp [flatA]
  | succ k =>
   simp only [List.take_succ_cons,flatA,List.length_append]
   have:=ih (at_+(g at_ y).length) k
   omega
theorem flatA_ge (d : Nat) (hd : 1 ≤ d) : ∀ (xs : List Tree) (at_ : Nat),xs.length ≤ (flatA (flatT d) at_ xs).2.length := by
 obtain ⟨e,rfl⟩:∃ e,d=e+1:=⟨d - 1,by omega⟩
 intro xs
 induction xs with
 | nil => intro at_; simp
 | cons y ys ih =>
  intro at_
  have h1:1 ≤ (flatT (e+1) at_ y).length:=by obtain ⟨t,zs⟩:=y; simp [flatT]
  have:=ih (at_+(flatT (e+1) at_ y).length)
  simp only [flatA,List.length_append,List.length_cons]; omega
theorem own_frozen {w : World} {B : Nat} {e : TypeId} {s n g cap : Nat} {xs : List Value} (h : w.ownsRow B e s (.slice (some ⟨g,0,none⟩) n cap) n xs) (j : Nat) : w.frozen? ⟨g,j,none⟩ = false := by
 rcases h.2 with ⟨h1,_⟩ | ⟨g',cap',cur,h1,_,h2,_⟩
 ·cases h1
 ·injection h1 with h1 _ _; injection h1 with h1; injection h1 with h1
  subst h1
  simp [World.frozen?,h2]
theorem own_cell {w : World} {B : Nat} {e : TypeId} {s n g cap : Nat} {xs : List Value} (h : w.ownsRow B e s (.slice (some ⟨g,0,none⟩) n cap) n xs) (j : Nat) (u : Value) (hj : xs[j]? = some u) : w.cell? ⟨g,j,none⟩ = some u := by
 have:=h.cells (g:=g) rfl j u hj
 have ha:(⟨g,0,none⟩:Addr).add j=⟨g,j,none⟩:=by unfold Addr.add; split <;> simp_all
 rwa [ha] at this
theorem infoT : (Tryz.prog.info? 75).map (fun i => (i.zero,i.size,i.bytes)) = some (some (.agg #[.int .i64 0,.int .i64 0,.int .i64 0,.string ⟨#[]⟩,.string ⟨#[]⟩,.slice none 0 0]),6,80) := by kernel_rfl
theorem infoI' : (Tryz.prog.info? 3).map (fun i => (i.zero,i.size,i.bytes)) = some (some (.int .i64 0),1,8) := by kernel_rfl
def FlatPost (w : World) (B d : Nat) (T : Tree) (L : List Trm) (e : Ending) (w' : World) : Prop := ∃ v' us',e = .returned v' ∧ OwnTs w' B v' (L ++ flatT d L.length T) us' ∧ Below B w w'
theorem cell_six_new (w : World) (a b c d e f : Value) (t : TypeId) : ∀ j u,[a,b,c,d,e,f][j]? = some u → (w.alloc (.cells #[a,b,c,d,e,f] t)).cell? ((⟨w.heap.size,0,none⟩ : Addr).add j) = some u := by
 intro j u hj
 have ha:(⟨w.heap.size,0,none⟩:Addr).add j=⟨w.heap.size,j,none⟩:=by unfold Addr.add; split <;> simp_all
 rw [ha,World.cell?_alloc_new]
 simpa using hj
theorem setA_head (L R : List Trm) (t : Trm) (a : List Int) : setA (L ++ t :: R) L.length a = L ++ { t with args := a } :: R := by
 unfold setA
 have e:trmAt (L ++ t :: R) L.length=t:=by unfold trmAt; rw [List.getD_eq_getElem?_getD,List.getElem?_append_right (Nat.le_refl _)]; simp
 rw [e,List.set_append_right _ _ (Nat.le_refl _)]; simp
set_option maxRecDepth 100000 in
set_option maxHeartbeats 400000 in
theorem f_flat_step (d : Nat)
  (ih:∀ (T:Tree) (v l:Value) (L:List Trm) (us:Nat → Value) (B:Nat) (S:Nat → Prop) (w:World),TreeZ w S d v T → (∀ b,S b → b < B) → B ≤ w.heap.size → OwnTs w B l L us → L.length+(flatT d L.length T).length ≤ 1000000 → Calls Tryz.prog 103 #[v,l] w (FlatPost w B d T L))
  (t:Trm) (xs:List Tree) (v l:Value) (L:List Trm) (us:Nat → Value) (B:Nat) (S:Nat → Prop) (w:World) (ht:TreeZ w S (d+1) v (.node t xs)) (hS:∀ b,S b → b < B) (hB:B ≤ w.heap.size) (ho:OwnTs w B l L us) (hlen:L.length+(flatT (d+1) L.length (.node t xs)).length ≤ 1000000) :
  Calls Tryz.prog 103 #[v,l] w (FlatPost w B (d+1) (.node t xs) L):=by
 obtain ⟨i0,hi,hz0,hz1,hz2⟩:=info_parts infoT
 obtain ⟨j0,hj,hy0,hy1,hy2⟩:=info_parts infoI'
 obtain ⟨b,rfl,hSb,⟨c0,c1,c2,c3,c4,c5,hta⟩,A,n,c,c6,hn,hnc,hkids⟩:=ht
 have hbB:=hS b hSb
 obtain ⟨A1,cap1,rfl⟩:=own_slice ho.row
 obtain ⟨n0,hn0⟩:∃ n0,L.length=n0:=⟨_,rfl⟩
 have hfl:flatT (d+1) L.length (.node t xs) = { t with args:=(flatA (flatT d) (n0+1) xs).1 } :: (flatA (flatT d) (n0+1) xs).2:=by
  simp only [flatT]; rw [hta,hn0]; rfl
 rw [hfl] at hlen
 have hlen2:n0+1+(flatA (flatT d) (n0+1) xs).2.length ≤ 1000000:=by simp at hlen; omega
 obtain ⟨tk,tn,ty,tf,tt,ta⟩:=t
 simp only at hta c0 c1 c2 c3 c4
 subst hta
 have hrow:=ho.row
 rw [hn0] at hrow
 have HO:=Lib.hid ho
 have HS:=Lib.hid hS
 have HIH:=Lib.hid ih
 have HFL:=Lib.hid hfl
 have HN0:=Lib.hid hn0
 have HN:=Lib.hid hn
 have HK:=Lib.hid hkids
 have KB:=Lib.hid (fun (W:World) (hW:Below B w W) => (hW.cell (p:=⟨b,6,none⟩) hbB).trans c6)
 rw [hn0]
 clear ho hS ih hfl hn hkids hlen hn0
 go_enter Tryz.func103,Tryz.ntmps103
 go_wp2_with (at_builtin; refine wpList_append_own_at _ rfl _ _ 24 rfl B 75 i0 (.agg #[.int .i64 0,.int .i64 0,.int .i64 0,.string ⟨#[]⟩,.string ⟨#[]⟩,.slice none 0 0]) 6 80 Tryz.underlying24 hi hz0 hz1 hz2 rfl (by decide) _ _ _ rfl (hrow.alloc _) ⟨w.heap.size,0,none⟩ 1 1 [.int .i64 tk,.int .i64 tn,.int .i64 ty,.string tf,.string tt,.slice none 0 0] rfl rfl (cell_six_new _ _ _ _ _ _ _ _) (by intro u hu; simp at hu; rcases hu with rfl | rfl | rfl | rfl | rfl | rfl <;> rfl) (by unfold maxLen; omega) (by omega) (by simp; omega) ?_)
 intro v2 w2 hown2 hgrow2 _ _
 have hl0:=HN0.out
 have hpush:=OwnTs.push (t:=⟨tk,tn,ty,tf,tt,[]⟩) HO.out rfl (by rw [HN0.out]; exact hown2) (by have:=hgrow2; cases A1 <;> exact this)
 have hb2:Below B w w2:=((Below.refl B w).alloc hB _).grown hgrow2 (by simp; omega) (fun g hg => (hrow.lt g hg).1)
 obtain ⟨A2,cap2,rfl⟩:=own_slice hown2
 have HP:=Lib.hid hpush
 have HB2:=Lib.hid hb2
 have k6:=KB.out w2 hb2
 have hs2:=hb2.size
 clear hpush hown2 hgrow2 hrow hb2 c0 c1 c2 c3 c4 c5 c6
 go_wp2_with fail
 go_loopw [1,22] (fun v1 v22 wr => ∃ (k:Nat) (us':Nat → Value),k ≤ n ∧ v22=.int .i64 (k:Int) ∧ OwnTs wr B v1 (L ++ ⟨tk,tn,ty,tf,tt,(flatA (flatT d) (n0+1) (xs.take k)).1⟩ :: (flatA (flatT d) (n0+1) (xs.take k)).2) us' ∧ Below B w wr) (fun _ v22 _ => n - (intOf v22).toNat)
 case atStart => exact ⟨0,_,by omega,rfl,HP.out,HB2.out⟩
 case round =>
  obtain ⟨k,us',hk,rfl,hot,hbl⟩:=hrel
  have HOT:=Lib.hid hot
  have HBL:=Lib.hid hbl
  have hs3:=hbl.size
  clear hot hbl HP
  by_cases hlt:k < n
  ·obtain ⟨g,off,rfl,hSg,hcell⟩:=HK.out (by omega)
   have hkx:k < xs.length:=by have:=HN.out; omega
   obtain ⟨x,hx⟩:∃ x,xs[k]?=some x:=⟨_,List.getElem?_eq_getElem hkx⟩
   obtain ⟨p,hp,htx⟩:=hcell k x hx
   have cp:wr.cell? ⟨g,off+k,none⟩=some p:=(HBL.out.cell (p:=⟨g,off+k,none⟩) (HS.out g hSg)).trans hp
   obtain ⟨pb,rfl,-⟩:=htx.ptr
   have htk:xs.take (k+1)=xs.take k ++ [x]:=by rw [List.take_add_one,hx]; rfl
   have hsn:=flatA_snoc (flatT d) x (xs.take k) (n0+1)
   rw [← htk] at hsn
   have hle:=flatA_len_le (flatT d) xs (n0+1) (k+1)
   rw [hsn] at hle
   obtain ⟨ps,hps⟩:∃ ps,(flatA (flatT d) (n0+1) (xs.take k)).1=ps:=⟨_,rfl⟩
   obtain ⟨R,hR⟩:∃ R,(flatA (flatT d) (n0+1) (xs.take k)).2=R:=⟨_,rfl⟩
   rw [hps,hR] at HOT
   rw [hps,hR] at hsn
   rw [hR] at hle
   have hle2:R.length+(flatT d (n0+1+R.length) x).length ≤ (flatA (flatT d) (n0+1) xs).2.length:=by simpa using hle
   have HTX:=Lib.hid htx
   have HSN:=Lib.hid hsn
   have hot:=HOT.out
   have hLl:(L ++ (⟨tk,tn,ty,tf,tt,ps⟩:Trm) :: R).length=n0+1+R.length:=by simp; omega
   have hrow:=hot.row
   rw [hLl] at hrow
   obtain ⟨q,qc,hv1,_,_⟩:=hrow.form (by omega)
   subst hv1
   have hn0lt:n0 < (L ++ (⟨tk,tn,ty,tf,tt,ps⟩:Trm) :: R).length:=by rw [hLl]; omega
   have hat:trmAt (L ++ (⟨tk,tn,ty,tf,tt,ps⟩:Trm) :: R) n0=⟨tk,tn,ty,tf,tt,ps⟩:=by unfold trmAt; rw [← hl0,List.getD_eq_getElem?_getD,List.getElem?_append_right (Nat.le_refl _)]; simp
   have hargs:=hot.args n0 hn0lt
   rw [hat] at hargs
   dsimp only at hargs
   have hca:wr.cell? ⟨q,n0*6+5,none⟩=some (us' n0):=own_cell hrow (n0*6+5) (us' n0) (by rw [tmsC_at _ us' n0 5 hn0lt (by decide)]; rfl)
   obtain ⟨A3,c3,hu3⟩:=own_slice hargs
   rw [hu3] at hca
   have hargs3:=hargs
   rw [hu3] at hargs3
   have hpk:ps.length=k:=by
    have hgl:∀ (ys:List Tree) (a:Nat),(flatA (flatT d) a ys).1.length=ys.length:=by
     intro ys
     induction ys with
     | nil => intro a; rfl
     | cons y ys ih => intro a; simp [flatA,ih]
    rw [← hps,hgl,List.length_take]; omega
   have hn6:n ≤ 1000000:=by
    have hd1:1 ≤ d:=by
     rcases Nat.eq_zero_or_pos d with h | h
     ·subst h; exact htx.elim
     ·exact h
    have:=flatA_ge d hd1 xs (n0+1)
    have:=HN.out
    omega
   have hplen:ps.length ≤ 1000000:=by omega
   clear hpk
   have z1:(0:Int) ≤ (k:Int):=by omega
   have z2:(k:Int) < (n:Int):=by omega
   have z3:(0:Int) ≤ (n0:Int):=by omega
   have z4:(n0:Int) < ((n0+1+R.length:Nat):Int):=by omega
   obtain ⟨m,hm⟩:∃ m,n0+1+R.length=m:=⟨_,rfl⟩
   rw [hm] at hrow hLl hle2 z4
   rw [hm]
   have HSN2:=HSN
   clear HSN
   rw [hm] at HSN2
   have hm1:m ≤ 1000000:=by omega
   have HLL:=Lib.hid hLl
   have HAT:=Lib.hid hat
   have HU3:=Lib.hid hu3
   have HARGS:=Lib.hid hargs
   have HROW:=Lib.hid hrow
   have HPS:=Lib.hid hps
   have HRR:=Lib.hid hR
   have HM:=Lib.hid hm
   have HHL:=Lib.hid hl0
   clear hsn hle hx hkx htk hp htx hcell hot hLl hat hargs hu3 hrow hps hR hm hl0 hn0lt
   go_wp2_with (at_builtin; refine wpList_append_own_at _ rfl _ _ 22 rfl B 3 j0 (.int .i64 0) 1 8 Tryz.underlying22 hj hy0 hy1 hy2 rfl (by decide) _ _ _ rfl (hargs3.alloc _) ⟨wr.heap.size,0,none⟩ 1 1 [.int .i64 (m:Int)] rfl rfl (cell_one_new _ _ _) (ints_oneCell .i64 [_]) (by unfold maxLen; omega) (by omega) (by simp; omega) ?_)
   intro u4 w4 hown4 hgrow4 _ hwh4
   have hrow4:=(HROW.out.alloc (.cells #[.int .i64 (m:Int)] 3)).kept hgrow4 (by
    have h5:=own_ne HROW.out hargs3 (by decide)
    rcases h5 with e | e
    ·exact .inl e
    ·exact .inr e)
   have hus3:(us' n0).ownBlock=(Value.slice A3 ps.length c3).ownBlock:=by rw [HU3.out]
   have hn0lt:n0 < (L ++ (⟨tk,tn,ty,tf,tt,ps⟩:Trm) :: R).length:=by rw [HLL.out]; omega
   have harg:=OwnTs.arg (n:=m) (g:=q) (cap:=qc) (k:=n0) (m:=(m:Int)) (u':=u4) (w:=wr) (w2:=w4) (by have:=HOT.out; rw [HM.out,← HLL.out] at this; exact this) hn0lt (by rw [HAT.out]; exact hown4) (by rw [hus3]; exact hgrow4) (by rw [hus3]; exact hwh4)
   rw [HAT.out,HLL.out] at harg
   have hset:setA (L ++ (⟨tk,tn,ty,tf,tt,ps⟩:Trm) :: R) n0 (ps ++ [(m:Int)])=L ++ (⟨tk,tn,ty,tf,tt,ps ++ [(m:Int)]⟩:Trm) :: R:=by rw [← HHL.out]; exact setA_head L R _ _
   rw [hset] at harg
   have hb4:Below B wr w4:=((Below.refl B wr).alloc (by omega) _).grown hgrow4 (by simp; omega) (fun g hg => (hargs3.lt g hg).1)
   have hqB:B ≤ q:=(HROW.out.lt q rfl).1
   have HB5:=Lib.hid (HBL.out.trans (hb4.setCell (p:=⟨q,n0*6+5,none⟩) hqB u4))
   obtain ⟨A5,c5,rfl⟩:=own_slice hown4
   have d4:=own_cell hrow4 (n0*6+5) (us' n0) (by rw [tmsC_at _ us' n0 5 hn0lt (by decide)]; rfl)
   rw [HU3.out] at d4
   have f4:=own_frozen hrow4 (n0*6+5)
   have HTX5:=Lib.hid (HTX.out.keep (w':=w4.setCell ⟨q,n0*6+5,none⟩ (.slice A5 (ps.length+1) c5)) (fun b hb => HB5.out.block b (HS.out b hb)))
   have hs5:=HB5.out.size
   have HARG:=Lib.hid harg
   have hm5:(L ++ (⟨tk,tn,ty,tf,tt,ps ++ [(m:Int)]⟩:Trm) :: R).length=m:=by have:=HHL.out; have:=HM.out; simp; omega
   have HM5:=Lib.hid hm5
   clear harg hown4 hgrow4 hwh4 hrow4 hus3 hset hb4 hn0lt hm5 hargs3 cp hca
   go_wp2_with fail
   refine (HIH.out x _ _ _ _ B S _ HTX5.out HS.out (by omega) HARG.out (by rw [HM5.out]; have:=HM.out; omega)).mono ?_
   rintro e w6 ⟨v6,us6,rfl,ho6,hb6⟩
   rw [HM5.out] at ho6
   obtain ⟨A6,c6,rfl⟩:=own_slice ho6.row
   have hbend:=HB5.out.trans hb6
   have HO6:=Lib.hid ho6
   have HBE:=Lib.hid hbend
   clear ho6 hb6 hbend
   go_wp2_with fail
   go_roundw
   case measure => simp [intOf]; omega
   case rel =>
    have hfin:L ++ (⟨tk,tn,ty,tf,tt,(flatA (flatT d) (n0+1) (xs.take (k+1))).1⟩:Trm) :: (flatA (flatT d) (n0+1) (xs.take (k+1))).2=(L ++ (⟨tk,tn,ty,tf,tt,ps ++ [(m:Int)]⟩:Trm) :: R) ++ flatT d m x:=by rw [HSN2.out]; simp
    have h9:=HO6.out
    have h10:(L ++ (⟨tk,tn,ty,tf,tt,ps ++ [(m:Int)]⟩:Trm) :: R ++ flatT d m x).length=L.length+(R.length+(flatT d m x).length+1):=by simp only [List.length_append,List.length_cons]; omega
    rw [h10] at h9
    refine ⟨k+1,us6,by omega,by go_num,?_,HBE.out⟩
    rw [hfin]
    exact h9
  ·have hkn:k=n:=by omega
   have hj0:¬ (k:Int) < (n:Int):=by omega
   have htk:xs.take k=xs:=List.take_of_length_le (by have:=HN.out; omega)
   rw [htk] at HOT
   have HKN:=Lib.hid hkn
   clear hkn htk
   go_wp2_with fail
   go_ret
   refine ⟨_,us',rfl,?_,HBL.out⟩
   rw [HFL.out]; exact HOT.out
theorem f_flat : ∀ (d : Nat) (T : Tree) (v l : Value) (L : List Trm) (us : Nat → Value) (B : Nat) (S : Nat → Prop) (w : World),TreeZ w S d v T → (∀ b,S b → b < B) → B ≤ w.heap.size → OwnTs w B l L us → L.length + (flatT d L.length T).length ≤ 1000000 →
  Calls Tryz.prog 103 #[v,l] w (FlatPost w B d T L):=by
 intro d
 induction d with
 | zero => intro T v l L us B S w h; exact h.elim
 | succ d ih =>
  intro T v l L us B S w ht hS hB ho hlen
  obtain ⟨t,xs⟩:=T
  exact f_flat_step d ih t xs v l L us B S w ht hS hB ho hlen
end Go.Proofs.YtgdngfdeeadlnaaGreatDoor

/- Contracts: the terms of a tree. And more. -/
import Derived.Test.YtgdngfdeeadlnaaGreatDoorZ09
import Derived.Test.YtgdngfdeeadlnaaGreatDoorZ01
import Derived.BigQuiet
set_option linter.unusedVariables false
set_option linter.unusedSimpArgs false
namespace Go.Proofs.YtgdngfdeeadlnaaGreatDoor
open Go.RowKit Num
theorem flatA_snoc (g : Nat → Tree → List Trm) (x : Tree) : ∀ (xs : List Tree) (at_ : Nat),flatA g at_ (xs ++ [x]) = ((flatA g at_ xs).1 ++ [((at_ + (flatA g at_ xs).2.length : Nat) : Int)],(flatA g at_ xs).2 ++ g (at_ + (flatA g at_ xs).2.length) x) := by
 intro xs
 induction xs with
 | nil => intro at_; simp [flatA]
 | cons y ys ih =>
  intro at_
  simp only [List.cons_append,flatA]
  rw [ih]
  simp [Nat.add_assoc,List.append_assoc]
theorem flatA_len_le (g : Nat → Tree → List Trm) : ∀ (xs : List Tree) (at_ k : Nat),(flatA g at_ (xs.take k)).2.length ≤ (flatA g at_ xs).2.length := by
 intro xs
 induction xs with
 | nil => intro at_ k; simp
 | cons y ys ih =>
  intro at_ k
  cases k with
  | zero => simp [flatA]
  | succ k =>
   simp only [List.take_succ_cons,flatA,List.length_append]
   have:=ih (at_+(g at_ y).length) k
   omega
theorem flatA_ge (d : Nat) (hd : 1 ≤ d) : ∀ (xs : List Tree) (at_ : Nat),xs.length ≤ (flatA (flatT d) at_ xs).2.length := by
 obtain ⟨e,rfl⟩:∃ e,d=e+1:=⟨d - 1,by omega⟩
 intro xs
 induction xs with
 | nil => intro at_; simp
 | cons y ys ih =>
  intro at_
  have h1:1 ≤ (flatT (e+1) at_ y).length:=by obtain ⟨t,zs⟩:=y; simp [flatT]
  have:=ih (at_+(flatT (e+1) at_ y).length)
  simp only [flatA,List.length_append,List.length_cons]; omega
theorem own_frozen {w : World} {B : Nat} {e : TypeId} {s n g cap : Nat} {xs : List Value} (h : w.ownsRow B e s (.slice (some ⟨g,0,none⟩) n cap) n xs) (j : Nat) : w.frozen? ⟨g,j,none⟩ = false := by
 rcases h.2 with ⟨h1,_⟩ | ⟨g',cap',cur,h1,_,h2,_⟩
 ·cases h1
 ·injection h1 with h1 _ _; injection h1 with h1; injection h1 with h1
  subst h1
  simp [World.frozen?,h2]
theorem own_cell {w : World} {B : Nat} {e : TypeId} {s n g cap : Nat} {xs : List Value} (h : w.ownsRow B e s (.slice (some ⟨g,0,none⟩) n cap) n xs) (j : Nat) (u : Value) (hj : xs[j]? = some u) : w.cell? ⟨g,j,none⟩ = some u := by
 have:=h.cells (g:=g) rfl j u hj
 have ha:(⟨g,0,none⟩:Addr).add j=⟨g,j,none⟩:=by unfold Addr.add; split <;> simp_all
 rwa [ha] at this
theorem infoT : (Tryz.prog.info? 75).map (fun i => (i.zero,i.size,i.bytes)) = some (some (.agg #[.int .i64 0,.int .i64 0,.int .i64 0,.string ⟨#[]⟩,.string ⟨#[]⟩,.slice none 0 0]),6,80) := by kernel_rfl
theorem infoI' : (Tryz.prog.info? 3).map (fun i => (i.zero,i.size,i.bytes)) = some (some (.int .i64 0),1,8) := by kernel_rfl
def FlatPost (w : World) (B d : Nat) (T : Tree) (L : List Trm) (e : Ending) (w' : World) : Prop := ∃ v' us',e = .returned v' ∧ OwnTs w' B v' (L ++ flatT d L.length T) us' ∧ Below B w w'
theorem cell_six_new (w : World) (a b c d e f : Value) (t : TypeId) : ∀ j u,[a,b,c,d,e,f][j]? = some u → (w.alloc (.cells #[a,b,c,d,e,f] t)).cell? ((⟨w.heap.size,0,none⟩ : Addr).add j) = some u := by
 intro j u hj
 have ha:(⟨w.heap.size,0,none⟩:Addr).add j=⟨w.heap.size,j,none⟩:=by unfold Addr.add; split <;> simp_all
 rw [ha,World.cell?_alloc_new]
 simpa using hj
theorem setA_head (L R : List Trm) (t : Trm) (a : List Int) : setA (L ++ t :: R) L.length a = L ++ { t with args := a } :: R := by
 unfold setA
 have e:trmAt (L ++ t :: R) L.length=t:=by unfold trmAt; rw [List.getD_eq_getElem?_getD,List.getElem?_append_right (Nat.le_refl _)]; simp
 rw [e,List.set_append_right _ _ (Nat.le_refl _)]; simp
set_option maxRecDepth 100000 in
set_option maxHeartbeats 400000 in
theorem f_flat_step (d : Nat)
  (ih:∀ (T:Tree) (v l:Value) (L:List Trm) (us:Nat → Value) (B:Nat) (S:Nat → Prop) (w:World),TreeZ w S d v T → (∀ b,S b → b < B) → B ≤ w.heap.size → OwnTs w B l L us → L.length+(flatT d L.length T).length ≤ 1000000 → Calls Tryz.prog 103 #[v,l] w (FlatPost w B d T L))
  (t:Trm) (xs:List Tree) (v l:Value) (L:List Trm) (us:Nat → Value) (B:Nat) (S:Nat → Prop) (w:World) (ht:TreeZ w S (d+1) v (.node t xs)) (hS:∀ b,S b → b < B) (hB:B ≤ w.heap.size) (ho:OwnTs w B l L us) (hlen:L.length+(flatT (d+1) L.length (.node t xs)).length ≤ 1000000) :
  Calls Tryz.prog 103 #[v,l] w (FlatPost w B (d+1) (.node t xs) L):=by
 obtain ⟨i0,hi,hz0,hz1,hz2⟩:=info_parts infoT
 obtain ⟨j0,hj,hy0,hy1,hy2⟩:=info_parts infoI'
 obtain ⟨b,rfl,hSb,⟨c0,c1,c2,c3,c4,c5,hta⟩,A,n,c,c6,hn,hnc,hkids⟩:=ht
 have hbB:=hS b hSb
 obtain ⟨A1,cap1,rfl⟩:=own_slice ho.row
 obtain ⟨n0,hn0⟩:∃ n0,L.length=n0:=⟨_,rfl⟩
 have hfl:flatT (d+1) L.length (.node t xs) = { t with args:=(flatA (flatT d) (n0+1) xs).1 } :: (flatA (flatT d) (n0+1) xs).2:=by
  simp only [flatT]; rw [hta,hn0]; rfl
 rw [hfl] at hlen
 have hlen2:n0+1+(flatA (flatT d) (n0+1) xs).2.length ≤ 1000000:=by simp at hlen; omega
 obtain ⟨tk,tn,ty,tf,tt,ta⟩:=t
 simp only at hta c0 c1 c2 c3 c4
 subst hta
 have hrow:=ho.row
 rw [hn0] at hrow
 have HO:=Lib.hid ho
 have HS:=Lib.hid hS
 have HIH:=Lib.hid ih
 have HFL:=Lib.hid hfl
 have HN0:=Lib.hid hn0
 have HN:=Lib.hid hn
 have HK:=Lib.hid hkids
 have KB:=Lib.hid (fun (W:World) (hW:Below B w W) => (hW.cell (p:=⟨b,6,none⟩) hbB).trans c6)
 rw [hn0]
 clear ho hS ih hfl hn hkids hlen hn0
 go_enter Tryz.func103,Tryz.ntmps103
 go_wp2_with (at_builtin; refine wpList_append_own_at _ rfl _ _ 24 rfl B 75 i0 (.agg #[.int .i64 0,.int .i64 0,.int .i64 0,.string ⟨#[]⟩,.string ⟨#[]⟩,.slice none 0 0]) 6 80 Tryz.underlying24 hi hz0 hz1 hz2 rfl (by decide) _ _ _ rfl (hrow.alloc _) ⟨w.heap.size,0,none⟩ 1 1 [.int .i64 tk,.int .i64 tn,.int .i64 ty,.string tf,.string tt,.slice none 0 0] rfl rfl (cell_six_new _ _ _ _ _ _ _ _) (by intro u hu; simp at hu; rcases hu with rfl | rfl | rfl | rfl | rfl | rfl <;> rfl) (by unfold maxLen; omega) (by omega) (by simp; omega) ?_)
 intro v2 w2 hown2 hgrow2 _ _
 have hl0:=HN0.out
 have hpush:=OwnTs.push (t:=⟨tk,tn,ty,tf,tt,[]⟩) HO.out rfl (by rw [HN0.out]; exact hown2) (by have:=hgrow2; cases A1 <;> exact this)
 have hb2:Below B w w2:=((Below.refl B w).alloc hB _).grown hgrow2 (by simp; omega) (fun g hg => (hrow.lt g hg).1)
 obtain ⟨A2,cap2,rfl⟩:=own_slice hown2
 have HP:=Lib.hid hpush
 have HB2:=Lib.hid hb2
 have k6:=KB.out w2 hb2
 have hs2:=hb2.size
 clear hpush hown2 hgrow2 hrow hb2 c0 c1 c2 c3 c4 c5 c6
 go_wp2_with fail
 go_loopw [1,22] (fun v1 v22 wr => ∃ (k:Nat) (us':Nat → Value),k ≤ n ∧ v22=.int .i64 (k:Int) ∧ OwnTs wr B v1 (L ++ ⟨tk,tn,ty,tf,tt,(flatA (flatT d) (n0+1) (xs.take k)).1⟩ :: (flatA (flatT d) (n0+1) (xs.take k)).2) us' ∧ Below B w wr) (fun _ v22 _ => n - (intOf v22).toNat)
 case atStart => exact ⟨0,_,by omega,rfl,HP.out,HB2.out⟩
 case round =>
  obtain ⟨k,us',hk,rfl,hot,hbl⟩:=hrel
  have HOT:=Lib.hid hot
  have HBL:=Lib.hid hbl
  have hs3:=hbl.size
  clear hot hbl HP
  by_cases hlt:k < n
  ·obtain ⟨g,off,rfl,hSg,hcell⟩:=HK.out (by omega)
   have hkx:k < xs.length:=by have:=HN.out; omega
   obtain ⟨x,hx⟩:∃ x,xs[k]?=some x:=⟨_,List.getElem?_eq_getElem hkx⟩
   obtain ⟨p,hp,htx⟩:=hcell k x hx
   have cp:wr.cell? ⟨g,off+k,none⟩=some p:=(HBL.out.cell (p:=⟨g,off+k,none⟩) (HS.out g hSg)).trans hp
   obtain ⟨pb,rfl,-⟩:=htx.ptr
   have htk:xs.take (k+1)=xs.take k ++ [x]:=by rw [List.take_add_one,hx]; rfl
   have hsn:=flatA_snoc (flatT d) x (xs.take k) (n0+1)
   rw [← htk] at hsn
   have hle:=flatA_len_le (flatT d) xs (n0+1) (k+1)
   rw [hsn] at hle
   obtain ⟨ps,hps⟩:∃ ps,(flatA (flatT d) (n0+1) (xs.take k)).1=ps:=⟨_,rfl⟩
   obtain ⟨R,hR⟩:∃ R,(flatA (flatT d) (n0+1) (xs.take k)).2=R:=⟨_,rfl⟩
   rw [hps,hR] at HOT
   rw [hps,hR] at hsn
   rw [hR] at hle
   have hle2:R.length+(flatT d (n0+1+R.length) x).length ≤ (flatA (flatT d) (n0+1) xs).2.length:=by simpa using hle
   have HTX:=Lib.hid htx
   have HSN:=Lib.hid hsn
   have hot:=HOT.out
   have hLl:(L ++ (⟨tk,tn,ty,tf,tt,ps⟩:Trm) :: R).length=n0+1+R.length:=by simp; omega
   have hrow:=hot.row
   rw [hLl] at hrow
   obtain ⟨q,qc,hv1,_,_⟩:=hrow.form (by omega)
   subst hv1
   have hn0lt:n0 < (L ++ (⟨tk,tn,ty,tf,tt,ps⟩:Trm) :: R).length:=by rw [hLl]; omega
   have hat:trmAt (L ++ (⟨tk,tn,ty,tf,tt,ps⟩:Trm) :: R) n0=⟨tk,tn,ty,tf,tt,ps⟩:=by unfold trmAt; rw [← hl0,List.getD_eq_getElem?_getD,List.getElem?_append_right (Nat.le_refl _)]; simp
   have hargs:=hot.args n0 hn0lt
   rw [hat] at hargs
   dsimp only at hargs
   have hca:wr.cell? ⟨q,n0*6+5,none⟩=some (us' n0):=own_cell hrow (n0*6+5) (us' n0) (by rw [tmsC_at _ us' n0 5 hn0lt (by decide)]; rfl)
   obtain ⟨A3,c3,hu3⟩:=own_slice hargs
   rw [hu3] at hca
   have hargs3:=hargs
   rw [hu3] at hargs3
   have hpk:ps.length=k:=by
    have hgl:∀ (ys:List Tree) (a:Nat),(flatA (flatT d) a ys).1.length=ys.length:=by
     intro ys
     induction ys with
     | nil => intro a; rfl
     | cons y ys ih => intro a; simp [flatA,ih]
    rw [← hps,hgl,List.length_take]; omega
   have hn6:n ≤ 1000000:=by
    have hd1:1 ≤ d:=by
     rcases Nat.eq_zero_or_pos d with h | h
     ·subst h; exact htx.elim
     ·exact h
    have:=flatA_ge d hd1 xs (n0+1)
    have:=HN.out
    omega
   have hplen:ps.length ≤ 1000000:=by omega
   clear hpk
   have z1:(0:Int) ≤ (k:Int):=by omega
   have z2:(k:Int) < (n:Int):=by omega
   have z3:(0:Int) ≤ (n0:Int):=by omega
   have z4:(n0:Int) < ((n0+1+R.length:Nat):Int):=by omega
   obtain ⟨m,hm⟩:∃ m,n0+1+R.length=m:=⟨_,rfl⟩
   rw [hm] at hrow hLl hle2 z4
   rw [hm]
   have HSN2:=HSN
   clear HSN
   rw [hm] at HSN2
   have hm1:m ≤ 1000000:=by omega
   have HLL:=Lib.hid hLl
   have HAT:=Lib.hid hat
   have HU3:=Lib.hid hu3
   have HARGS:=Lib.hid hargs
   have HROW:=Lib.hid hrow
   have HPS:=Lib.hid hps
   have HRR:=Lib.hid hR
   have HM:=Lib.hid hm
   have HHL:=Lib.hid hl0
   clear hsn hle hx hkx htk hp htx hcell hot hLl hat hargs hu3 hrow hps hR hm hl0 hn0lt
   go_wp2_with (at_builtin; refine wpList_append_own_at _ rfl _ _ 22 rfl B 3 j0 (.int .i64 0) 1 8 Tryz.underlying22 hj hy0 hy1 hy2 rfl (by decide) _ _ _ rfl (hargs3.alloc _) ⟨wr.heap.size,0,none⟩ 1 1 [.int .i64 (m:Int)] rfl rfl (cell_one_new _ _ _) (ints_oneCell .i64 [_]) (by unfold maxLen; omega) (by omega) (by simp; omega) ?_)
   intro u4 w4 hown4 hgrow4 _ hwh4
   have hrow4:=(HROW.out.alloc (.cells #[.int .i64 (m:Int)] 3)).kept hgrow4 (by
    have h5:=own_ne HROW.out hargs3 (by decide)
    rcases h5 with e | e
    ·exact .inl e
    ·exact .inr e)
   have hus3:(us' n0).ownBlock=(Value.slice A3 ps.length c3).ownBlock:=by rw [HU3.out]
   have hn0lt:n0 < (L ++ (⟨tk,tn,ty,tf,tt,ps⟩:Trm) :: R).length:=by rw [HLL.out]; omega
   have harg:=OwnTs.arg (n:=m) (g:=q) (cap:=qc) (k:=n0) (m:=(m:Int)) (u':=u4) (w:=wr) (w2:=w4) (by have:=HOT.out; rw [HM.out,← HLL.out] at this; exact this) hn0lt (by rw [HAT.out]; exact hown4) (by rw [hus3]; exact hgrow4) (by rw [hus3]; exact hwh4)
   rw [HAT.out,HLL.out] at harg
   have hset:setA (L ++ (⟨tk,tn,ty,tf,tt,ps⟩:Trm) :: R) n0 (ps ++ [(m:Int)])=L ++ (⟨tk,tn,ty,tf,tt,ps ++ [(m:Int)]⟩:Trm) :: R:=by rw [← HHL.out]; exact setA_head L R _ _
   rw [hset] at harg
   have hb4:Below B wr w4:=((Below.refl B wr).alloc (by omega) _).grown hgrow4 (by simp; omega) (fun g hg => (hargs3.lt g hg).1)
   have hqB:B ≤ q:=(HROW.out.lt q rfl).1
   have HB5:=Lib.hid (HBL.out.trans (hb4.setCell (p:=⟨q,n0*6+5,none⟩) hqB u4))
   obtain ⟨A5,c5,rfl⟩:=own_slice hown4
   have d4:=own_cell hrow4 (n0*6+5) (us' n0) (by rw [tmsC_at _ us' n0 5 hn0lt (by decide)]; rfl)
   rw [HU3.out] at d4
   have f4:=own_frozen hrow4 (n0*6+5)
   have HTX5:=Lib.hid (HTX.out.keep (w':=w4.setCell ⟨q,n0*6+5,none⟩ (.slice A5 (ps.length+1) c5)) (fun b hb => HB5.out.block b (HS.out b hb)))
   have hs5:=HB5.out.size
   have HARG:=Lib.hid harg
   have hm5:(L ++ (⟨tk,tn,ty,tf,tt,ps ++ [(m:Int)]⟩:Trm) :: R).length=m:=by have:=HHL.out; have:=HM.out; simp; omega
   have HM5:=Lib.hid hm5
   clear harg hown4 hgrow4 hwh4 hrow4 hus3 hset hb4 hn0lt hm5 hargs3 cp hca
   go_wp2_with fail
   refine (HIH.out x _ _ _ _ B S _ HTX5.out HS.out (by omega) HARG.out (by rw [HM5.out]; have:=HM.out; omega)).mono ?_
   rintro e w6 ⟨v6,us6,rfl,ho6,hb6⟩
   rw [HM5.out] at ho6
   obtain ⟨A6,c6,rfl⟩:=own_slice ho6.row
   have hbend:=HB5.out.trans hb6
   have HO6:=Lib.hid ho6
   have HBE:=Lib.hid hbend
   clear ho6 hb6 hbend
   go_wp2_with fail
   go_roundw
   case measure => simp [intOf]; omega
   case rel =>
    have hfin:L ++ (⟨tk,tn,ty,tf,tt,(flatA (flatT d) (n0+1) (xs.take (k+1))).1⟩:Trm) :: (flatA (flatT d) (n0+1) (xs.take (k+1))).2=(L ++ (⟨tk,tn,ty,tf,tt,ps ++ [(m:Int)]⟩:Trm) :: R) ++ flatT d m x:=by rw [HSN2.out]; simp
    have h9:=HO6.out
    have h10:(L ++ (⟨tk,tn,ty,tf,tt,ps ++ [(m:Int)]⟩:Trm) :: R ++ flatT d m x).length=L.length+(R.length+(flatT d m x).length+1):=by simp only [List.length_append,List.length_cons]; omega
    rw [h10] at h9
    refine ⟨k+1,us6,by omega,by go_num,?_,HBE.out⟩
    rw [hfin]
    exact h9
  ·have hkn:k=n:=by omega
   have hj0:¬ (k:Int) < (n:Int):=by omega
   have htk:xs.take k=xs:=List.take_of_length_le (by have:=HN.out; omega)
   rw [htk] at HOT
   have HKN:=Lib.hid hkn
   clear hkn htk
   go_wp2_with fail
   go_ret
   refine ⟨_,us',rfl,?_,HBL.out⟩
   rw [HFL.out]; exact HOT.out
theorem f_flat : ∀ (d : Nat) (T : Tree) (v l : Value) (L : List Trm) (us : Nat → Value) (B : Nat) (S : Nat → Prop) (w : World),TreeZ w S d v T → (∀ b,S b → b < B) → B ≤ w.heap.size → OwnTs w B l L us → L.length + (flatT d L.length T).length ≤ 1000000 →
  Calls Tryz.prog 103 #[v,l] w (FlatPost w B d T L):=by
 intro d
 induction d with
 | zero => intro T v l L us B S w h; exact h.elim
 | succ d ih =>
  intro T v l L us B S w ht hS hB ho hlen
  obtain ⟨t,xs⟩:=T
  exact f_flat_step d ih t xs v l L us B S w ht hS hB ho hlen
structure Chg (w w' : World) (S : Nat → Prop) : Prop where
  os : w'.os = w.os
  tape : w'.tape = w.tape
  output : w'.output = w.output
  size : w.heap.size ≤ w'.heap.size
  block : ∀ i, i < w.heap.size → ¬ S i → w'.heap[i]? = w.heap[i]?
section
variable {w w' a b c : World} {S T : Nat → Prop}
theorem Chg.refl (w : World) (S : Nat → Prop) : Chg w w S := ⟨rfl,rfl,rfl,Nat.le_refl _,fun _ _ _ => rfl⟩
theorem Chg.trans (h : Chg a b S) (k : Chg b c T) (hT : ∀ i,i < a.heap.size → T i → S i) : Chg a c S :=
 ⟨k.os.trans h.os,k.tape.trans h.tape,k.output.trans h.output,Nat.le_trans h.size k.size,fun i hi hn => (k.block i (Nat.lt_of_lt_of_le hi h.size) (fun ht => hn (hT i hi ht))).trans (h.block i hi hn)⟩
theorem Chg.mono (h : Chg a b S) (hT : ∀ i,i < a.heap.size → S i → T i) : Chg a b T := ⟨h.os,h.tape,h.output,h.size,fun i hi hn => h.block i hi fun hs => hn (hT i hi hs)⟩
theorem Chg.of_grown {row : Option Nat} (h : w.grownBy w' row) (hr : ∀ g,row = some g → g < w.heap.size → S g) : Chg w w' S :=
 ⟨h.os,h.tape,h.output,h.size,fun i hi hn => h.block i hi fun e => hn (hr i e.symm hi)⟩
theorem Chg.alloc (h : Chg a w S) (o : Obj) : Chg a (w.alloc o) S :=
 h.trans (T:=fun _ => False) (Chg.of_grown (World.grownBy_alloc w o none) (fun g hg => by cases hg)) (fun _ _ hf => hf.elim)
theorem Chg.setCell (h : Chg a w S) (p : Addr) (hp : p.block < a.heap.size → S p.block) (u : Value) : Chg a (w.setCell p u) S :=
 h.trans (T:=fun i => i=p.block) (Chg.of_grown (grown_setCell w p u) (fun g hg _ => by cases hg; rfl)) (fun i hi e => by subst e; exact hp hi)
theorem Chg.drewN (h : Chg a w S) (n : Nat) : Chg a (w.drewN n) S := ⟨h.os,h.tape,h.output,h.size,h.block⟩
theorem Chg.below (h : Chg w w' S) {B : Nat} (hS : ∀ i,i < B → ¬ S i) (hB : B ≤ w.heap.size) : Below B w w' := ⟨h.os,h.tape,h.output,h.size,fun i hi => h.block i (by omega) (hS i hi)⟩
theorem Chg.own (h : Chg w w' S) {B : Nat} {e : TypeId} {s n : Nat} {v : Value} {xs : List Value} (ho : w.ownsRow B e s v n xs) (hne : ∀ g,v.ownBlock = some g → ¬ S g) : w'.ownsRow B e s v n xs := by
 refine ⟨ho.1,?_⟩
 rcases ho.2 with hn | ⟨g,cap,cur,rfl,hb,hgg,rest⟩
 ·exact .inl hn
 ·refine .inr ⟨g,cap,cur,rfl,hb,?_,rest⟩
  rw [h.block g (Array.getElem?_eq_some_iff.1 hgg).1 (hne g rfl)]
  exact hgg
theorem Chg.blk (h : Chg w w' S) {g : Nat} {t : TypeId} {cs : Array Value} (hb : Blk w g t cs) (hg : ¬ S g) : Blk w' g t cs := (h.block g hb.lt hg).trans hb
theorem OwnTs.chg {B : Nat} {v : Value} {L : List Trm} {us : Nat → Value} (h : OwnTs w B v L us) (hc : Chg w w' S) (hv : ∀ g,v.ownBlock = some g → ¬ S g) (hu : ∀ k,k < L.length → ∀ g,(us k).ownBlock = some g → ¬ S g) : OwnTs w' B v L us :=
 ⟨hc.own h.row hv,fun k hk => hc.own (h.args k hk) (hu k hk),h.apart⟩
end
theorem own_not {w : World} {B : Nat} {e t : TypeId} {s n g : Nat} {v : Value} {xs : List Value} {cs : Array Value} (h : w.ownsRow B e s v n xs) (hb : Blk w g t cs) (hne : t ≠ e) : ∀ k,v.ownBlock = some k → k ≠ g := by
 intro k hk hkg
 subst hkg
 rcases h.2 with ⟨rfl,_⟩ | ⟨g',cap,cur,rfl,_,hg,_⟩
 ·simp [Value.ownBlock] at hk
 ·simp [Value.ownBlock] at hk
  subst hk
  unfold Blk at hb
  rw [hb] at hg
  injection hg with hg
  injection hg with _ h2
  exact hne h2
theorem tmsC_put (L : List Trm) (us : Nat → Value) (k : Nat) (t : Trm) (u : Value) (h : k < L.length) :
  ((((((tmsC L us).set (k*6) (.int .i64 t.kind)).set (k*6+1) (.int .i64 t.num)).set (k*6+2) (.int .i64 t.yrs)).set (k*6+3) (.string t.field)).set (k*6+4) (.string t.text)).set (k*6+5) u=tmsC (L.set k t) (fun j => if j=k then u else us j):=by
 apply List.ext_getElem?
 intro i
 have hlen:(L.set k t).length=L.length:=List.length_set ..
 have hat:∀ j,trmAt (L.set k t) j=if j=k then t else trmAt L j:=by
  intro j
  unfold trmAt
  rw [List.getD_eq_getElem?_getD,List.getElem?_set]
  by_cases e:k=j
  ·subst e; simp [h]
  ·rw [if_neg e,if_neg (fun e' => e e'.symm),List.getD_eq_getElem?_getD]
 simp only [List.getElem?_set,List.length_set]
 rcases Nat.lt_or_ge i (6*L.length) with hi | hi
 ·rw [tmsC_get L us i hi,tmsC_get (L.set k t) (fun j => if j=k then u else us j) i (by rw [hlen]; exact hi),hat,tmsC_len]
  by_cases e:i / 6=k
  ·rw [if_pos e]
   simp only [e,if_true]
   obtain ⟨j,hj,hj6⟩:∃ j,i % 6=j ∧ j < 6:=⟨_,rfl,by omega⟩
   rw [hj]
   have hij:i=k*6+j:=by omega
   match j,hj6 with
   | 0,_ => simp [tmCell,hij]; omega
   | 1,_ => simp [tmCell,hij]; omega
   | 2,_ => simp [tmCell,hij]; omega
   | 3,_ => simp [tmCell,hij]; omega
   | 4,_ => simp [tmCell,hij]; omega
   | 5,_ => simp [tmCell,hij]; omega
  ·rw [if_neg e,if_neg e,if_neg (by omega),if_neg (by omega),if_neg (by omega),if_neg (by omega),if_neg (by omega),if_neg (by omega)]
 ·rw [tmsC_none L us i hi,tmsC_none (L.set k t) (fun j => if j=k then u else us j) i (by rw [hlen]; exact hi),if_neg (by omega),if_neg (by omega),if_neg (by omega),if_neg (by omega),if_neg (by omega),if_neg (by omega)]
def put6 (w : World) (g k : Nat) (t : Trm) (u : Value) : World :=
 (((((w.setCell ⟨g,k*6,none⟩ (.int .i64 t.kind)).setCell ⟨g,k*6+1,none⟩ (.int .i64 t.num)).setCell ⟨g,k*6+2,none⟩ (.int .i64 t.yrs)).setCell ⟨g,k*6+3,none⟩ (.string t.field)).setCell ⟨g,k*6+4,none⟩ (.string t.text)).setCell ⟨g,k*6+5,none⟩ u
theorem put6_row {w : World} {B g n cap k : Nat} {e : TypeId} {s : Nat} {xs : List Value} (h : w.ownsRow B e s (.slice (some ⟨g,0,none⟩) n cap) n xs) (t : Trm) (u : Value) :
  (put6 w g k t u).ownsRow B e s (.slice (some ⟨g,0,none⟩) n cap) n ((((((xs.set (k*6) (.int .i64 t.kind)).set (k*6+1) (.int .i64 t.num)).set (k*6+2) (.int .i64 t.yrs)).set (k*6+3) (.string t.field)).set (k*6+4) (.string t.text)).set (k*6+5) u) ∧ w.grownBy (put6 w g k t u) (some g):=by
 have s0:=World.ownsRow.stored h (k*6) (.int .i64 t.kind)
 have s1:=World.ownsRow.stored s0.1 (k*6+1) (.int .i64 t.num)
 have s2:=World.ownsRow.stored s1.1 (k*6+2) (.int .i64 t.yrs)
 have s3:=World.ownsRow.stored s2.1 (k*6+3) (.string t.field)
 have s4:=World.ownsRow.stored s3.1 (k*6+4) (.string t.text)
 have s5:=World.ownsRow.stored s4.1 (k*6+5) u
 exact ⟨s5.1,gb_trans (gb_trans (gb_trans (gb_trans (gb_trans s0.2 s1.2) s2.2) s3.2) s4.2) s5.2⟩
theorem OwnTs.put {w : World} {B g cap : Nat} {L : List Trm} {us : Nat → Value} (h : OwnTs w B (.slice (some ⟨g,0,none⟩) L.length cap) L us) {k : Nat} (hk : k < L.length) (t : Trm) (u : Value)
  (hu:w.ownsRow B 3 1 u t.args.length (t.args.map (Value.int .i64))) (hap:∀ j,j < L.length → j ≠ k → (us j).ownBlock=none ∨ (us j).ownBlock ≠ u.ownBlock) :
  OwnTs (put6 w g k t u) B (.slice (some ⟨g,0,none⟩) L.length cap) (L.set k t) (fun j => if j=k then u else us j) ∧ w.grownBy (put6 w g k t u) (some g):=by
 obtain ⟨h1,h2⟩:=put6_row (k:=k) h.row t u
 have hlen:(L.set k t).length=L.length:=List.length_set ..
 have hat:∀ j,trmAt (L.set k t) j=if j=k then t else trmAt L j:=by
  intro j
  unfold trmAt
  rw [List.getD_eq_getElem?_getD,List.getElem?_set]
  by_cases e:k=j
  ·subst e; simp [hk]
  ·rw [if_neg e,if_neg (fun e' => e e'.symm),List.getD_eq_getElem?_getD]
 refine ⟨⟨?_,fun j hj => ?_,fun j i hj hi hji => ?_⟩,h2⟩
 ·rw [hlen,← tmsC_put L us k t u hk]; exact h1
 ·rw [hlen] at hj
  rw [hat]
  by_cases e:j=k
  ·rw [if_pos e,if_pos e]
   exact hu.kept h2 (own_ne hu h.row (by decide))
  ·rw [if_neg e,if_neg e]
   exact (h.args j hj).kept h2 (own_ne (h.args j hj) h.row (by decide))
 ·rw [hlen] at hj hi
  by_cases e:j=k
  ·rw [if_pos e]
   have e2:i ≠ k:=fun e2 => hji (e.trans e2.symm)
   rw [if_neg e2]
   rcases hap i hi e2 with e3 | e3
   ·rcases hb:u.ownBlock with _ | q
    ·exact .inl rfl
    ·exact .inr (by rw [e3]; simp)
   ·exact .inr fun e4 => e3 e4.symm
  ·rw [if_neg e]
   by_cases e2:i=k
   ·rw [if_pos e2]; exact hap j hj e
   ·rw [if_neg e2]; exact h.apart j i hj hi hji
def KitT (t : Trm) : Prop := t.field.size ≤ 4 ∧ t.text.size ≤ 5 ∧ (∀ c ∈ blOf t.field,signB c = false) ∧ (∀ c ∈ blOf t.text,signB c = false) ∧ t.args.length ≤ 3
theorem chg_set (w : World) (g i : Nat) (u : Value) : Chg w (w.setCell ⟨g,i,none⟩ u) (fun j => j = g) := Chg.of_grown (grown_setCell w ⟨g,i,none⟩ u) (fun q hq _ => by cases hq; rfl)
structure KSt (w0 wx : World) (db cb B n0 : Nat) (v0 : Value) (us0 : Nat → Value) (v : Value) (L : List Trm) (us : Nat → Value) : Prop where
  dc : Dc wx db
  blk : Blk wx cb 26 #[v]
  own : OwnTs wx B v L us
  len : n0 < L.length
  kit : ∀ t ∈ L, KitT t
  chg : Chg w0 wx (fun i => i = db ∨ i = cb ∨ v0.ownBlock = some i)
  vb : ∀ g, v.ownBlock = some g → v0.ownBlock = some g ∨ w0.heap.size ≤ g
  old : ∀ k, k < n0 → us k = us0 k
  new : ∀ k, n0 ≤ k → k < L.length → ∀ g, (us k).ownBlock = some g → w0.heap.size ≤ g
structure KT (w0 wx : World) (B tb : Nat) (v : Value) (L : List Trm) (us : Nat → Value) (t : Trm) (u : Value) : Prop where
  blk : Blk wx tb 75 #[.int .i64 t.kind, .int .i64 t.num, .int .i64 t.yrs, .string t.field, .string t.text, u]
  arg : wx.ownsRow B 3 1 u t.args.length (t.args.map (Value.int .i64))
  vne : ∀ g, v.ownBlock = some g → g ≠ tb
  apart : ∀ k, k < L.length → (us k).ownBlock = none ∨ (us k).ownBlock ≠ u.ownBlock
  ub : ∀ g, u.ownBlock = some g → w0.heap.size ≤ g
  tbn : w0.heap.size ≤ tb
section
variable {w0 wx wy : World} {db cb B n0 tb : Nat} {v0 v v' u : Value} {us0 us us' : Nat → Value} {L L' : List Trm} {t : Trm} {T : Nat → Prop}
theorem KSt.keep (h : KSt w0 wx db cb B n0 v0 us0 v L us) (hc : Chg wx wy T) (hd : Dc wy db) (hcb : ¬ T cb) (hv : ∀ g,v.ownBlock = some g → ¬ T g) (hu : ∀ k,k < L.length → ∀ g,(us k).ownBlock = some g → ¬ T g)
  (hT:∀ i,i < w0.heap.size → T i → i=db ∨ i=cb ∨ v0.ownBlock=some i):KSt w0 wy db cb B n0 v0 us0 v L us :=
 ⟨hd,hc.blk h.blk hcb,h.own.chg hc hv hu,h.len,h.kit,h.chg.trans hc hT,h.vb,h.old,h.new⟩
theorem KSt.dice (h : KSt w0 wx db cb B n0 v0 us0 v L us) (hd : Dc wy db) (hg : wx.grownBy wy (some db)) (hdb : db < B) (hcb : B ≤ cb) : KSt w0 wy db cb B n0 v0 us0 v L us := by
 have hc:Chg wx wy (fun i => i=db):=Chg.of_grown hg (fun g hg _ => by cases hg; rfl)
 refine h.keep hc hd (by omega) (fun g hg => ?_) (fun k hk g hg => ?_) (fun i hi e => .inl e)
 ·have:=(h.own.row.lt g hg).1; omega
 ·have:=((h.own.args k hk).lt g hg).1; omega
theorem KSt.alloc (h : KSt w0 wx db cb B n0 v0 us0 v L us) (o : Obj) : KSt w0 (wx.alloc o) db cb B n0 v0 us0 v L us :=
 h.keep (T:=fun _ => False) ((Chg.refl wx _).alloc o) (h.dc.alloc o) (fun e => e) (fun _ _ e => e) (fun _ _ _ _ e => e) (fun _ _ e => e.elim)
theorem KT.keep (h : KT w0 wx B tb v L us t u) (hc : Chg wx wy T) (ht : ¬ T tb) (hu : ∀ g,u.ownBlock = some g → ¬ T g) : KT w0 wy B tb v L us t u :=
 ⟨hc.blk h.blk ht,hc.own h.arg hu,h.vne,h.apart,h.ub,h.tbn⟩
theorem KT.dice (h : KT w0 wx B tb v L us t u) (hg : wx.grownBy wy (some db)) (hdb : db < B) (hB : B ≤ w0.heap.size) : KT w0 wy B tb v L us t u :=
 h.keep (T:=fun i => i=db) (Chg.of_grown hg (fun g hg _ => by cases hg; rfl)) (by have:=h.tbn; omega) (fun g hg => by have:=h.ub g hg; omega)
theorem KT.alloc (h : KT w0 wx B tb v L us t u) (o : Obj) : KT w0 (wx.alloc o) B tb v L us t u :=
 h.keep (T:=fun _ => False) ((Chg.refl wx _).alloc o) (fun e => e) (fun _ _ e => e)
theorem KT.set_ (k : KT w0 wx B tb v L us t u) (i : Nat) (x : Value) (t' : Trm) (ht : t'.args = t.args) (hx : (#[.int .i64 t.kind,.int .i64 t.num,.int .i64 t.yrs,.string t.field,.string t.text,u] : Array Value).setIfInBounds i x = #[.int .i64 t'.kind,.int .i64 t'.num,.int .i64 t'.yrs,.string t'.field,.string t'.text,u]) :
  KT w0 (wx.setCell ⟨tb,i,none⟩ x) B tb v L us t' u:=by
 have hb:=k.blk.set_ i x
 rw [hx] at hb
 have hc:Chg wx (wx.setCell ⟨tb,i,none⟩ x) (fun i => i=tb):=chg_set wx tb i x
 refine ⟨hb,?_,k.vne,k.apart,k.ub,k.tbn⟩
 rw [ht]
 exact hc.own k.arg (fun g hg e => own_not k.arg k.blk (by decide) g hg e)
theorem KSt.put {g cap : Nat} (h : KSt w0 wx db cb B n0 v0 us0 (.slice (some ⟨g,0,none⟩) L.length cap) L us) (k : KT w0 wx B tb (.slice (some ⟨g,0,none⟩) L.length cap) L us t u) (ht : KitT t) (hdb : db < B) (hcb : B ≤ cb) :
  KSt w0 (put6 wx g n0 t u) db cb B n0 v0 us0 (.slice (some ⟨g,0,none⟩) L.length cap) (L.set n0 t) (fun j => if j=n0 then u else us j):=by
 obtain ⟨p1,p2⟩:=h.own.put h.len t u k.arg (fun j hj _ => k.apart j hj)
 have hgB:=(h.own.row.lt g rfl).1
 have hgc:g ≠ cb:=own_not h.own.row h.blk (by decide) g rfl
 have hc:Chg wx (put6 wx g n0 t u) (fun i => i=g):=Chg.of_grown p2 (fun q hq _ => by cases hq; rfl)
 refine ⟨h.dc.keep fun q hq => hc.block q (by have:=h.dc.lt; omega) (by omega),hc.blk h.blk (fun e => hgc e.symm),p1,by rw [List.length_set]; exact h.len,fun x hx => ?_,h.chg.trans hc (fun i hi e => ?_),h.vb,fun j hj => ?_,fun j hj hj2 q hq => ?_⟩
 ·rcases List.mem_or_eq_of_mem_set hx with e | e
  ·exact h.kit x e
  ·rw [e]; exact ht
 ·subst e
  rcases h.vb i rfl with e2 | e2
  ·exact .inr (.inr e2)
  ·omega
 ·have e:j ≠ n0:=by omega
  simp only [if_neg e]; exact h.old j hj
 ·rw [List.length_set] at hj2
  by_cases e:j=n0
  ·simp only [if_pos e] at hq; exact k.ub q hq
  ·simp only [if_neg e] at hq; exact h.new j hj hj2 q hq
end
theorem anss_eq {La Lb : List Ans} (hl : La.length = Lb.length) (h : ∀ q,q < La.length → ansAt La q = ansAt Lb q) : La = Lb := by
 apply List.ext_getElem hl
 intro i h1 h2
 have:=h i h1
 unfold ansAt at this
 rwa [List.getD_eq_getElem?_getD,List.getD_eq_getElem?_getD,List.getElem?_eq_getElem h1,List.getElem?_eq_getElem h2] at this
theorem shws_eq {La Lb : List Shw} (hl : La.length = Lb.length) (h : ∀ q,q < La.length → shwAt La q = shwAt Lb q) : La = Lb := by
 apply List.ext_getElem hl
 intro i h1 h2
 have:=h i h1
 unfold shwAt at this
 rwa [List.getD_eq_getElem?_getD,List.getD_eq_getElem?_getD,List.getElem?_eq_getElem h1,List.getElem?_eq_getElem h2] at this
theorem below_drewN {B : Nat} {w w' : World} (h : Below B w w') (n : Nat) : Below B w (w'.drewN n) := ⟨h.os,h.tape,h.output,h.size,h.block⟩
def SameB (p : Prop) (w : World) (e : Ending) (w' : World) : Prop := ∃ b : Bool,e = .returned (.bool b) ∧ (b = true ↔ p) ∧ Below w.heap.size w w'
theorem bytes_of {a b : ByteArray} (h : (a.toList == b.toList) = true) : b = a := by
 have:=eq_of_beq h
 rw [ByteArray.toList_eq,ByteArray.toList_eq] at this
 exact (blOf_inj this).symm
theorem stm_eq {s t : Stm} (h1 : s.resp = t.resp) (h2 : s.dep = t.dep) (h3 : s.day = t.day) (h4 : s.ans = t.ans) (h5 : s.cond = t.cond) (h6 : s.shw = t.shw) : s = t := by
 cases s; cases t; simp_all
end Go.Proofs.YtgdngfdeeadlnaaGreatDoor

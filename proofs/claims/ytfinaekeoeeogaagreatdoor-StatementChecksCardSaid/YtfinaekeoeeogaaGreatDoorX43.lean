/- Contracts: a statement's reader reads items; the statement while it is read. And more. -/
import Derived.Test.YtfinaekeoeeogaaGreatDoorX42
import Derived.Test.YtfinaekeoeeogaaGreatDoorX28
import Derived.Test.YtfinaekeoeeogaaGreatDoorX13
import Derived.Test.YtfinaekeoeeogaaGreatDoorX14
import Derived.Test.YtfinaekeoeeogaaGreatDoorX01
import Derived.Test.YtfinaekeoeeogaaGreatDoorX25
import Derived.BigRegion
import Derived.Deep.RegionLaw
import Derived.Test.YtfinaekeoeeogaaGreatDoorX04
import Derived.Test.YtfinaekeoeeogaaGreatDoorX32
set_option linter.unusedVariables false
set_option linter.unusedSimpArgs false
namespace Go.Proofs.YtfinaekeoeeogaaGreatDoor
open Go.RowKit Num
set_option maxRecDepth 100000 in
set_option maxHeartbeats 2000000 in
theorem r_times {α : Type} (b : ByteArray) (rb : Nat) (item : RS → α × RS) (K : FuncId) (caps : Array Value) (J : List α → RS → World → Prop) (hb : b.size ≤ 1000000)
  (hcf:∀ (args:Array Value) (W:World),(callFunc K args).run Tryz.prog W=.ok (.enter K args) W)
  (hrd:∀ l s W,J l s W → RdB W rb b s) (hcall:∀ l s s' W W',J l s W → RdB W' rb b s' → W.grownBy W' (some rb) → J l s' W')
  (hitem:∀ l s W,l.length < 256 → J l s W → Calls Tryz.prog K caps W fun e W' => e=.returned (.tuple #[]) ∧ J (l ++ [(item s).1]) (item s).2 W') (s:RS) (W:World) (h:J [] s W) :
  Calls Tryz.prog 43 #[.pointer (some ⟨rb,0,none⟩),.func (.func K) #[] caps] W fun e W' => e=.returned (.tuple #[]) ∧ J (rdTimes item s).1 (rdTimes item s).2 W':=by
 have hnum:=r_number b rb s W hb (hrd _ _ _ h)
 have hin:=rdI_in s
 have hdef:rdTimes item s=if (rdI s).1 < 0 ∨ 256 < (rdI s).1 then ([],⟨(rdI s).2.rest,true⟩) else timesR item (rdI s).1.toNat (rdI s).2:=rfl
 rw [hdef]
 clear hdef
 generalize (rdI s).1=n at *
 generalize (rdI s).2=s1 at *
 have HNUM:=Lib.hid hnum
 have HJ:=Lib.hid (fun W' (h1:RdB W' rb b s1) (h2:W.grownBy W' (some rb)) => hcall _ _ s1 W W' h h1 h2)
 have HRD:=Lib.hid hrd
 have HCALL:=Lib.hid hcall
 have HITEM:=Lib.hid hitem
 clear hnum hrd hcall hitem h
 by_cases hbad:n < 0 ∨ 256 < n
 ·rw [if_pos hbad]
  go_enter Tryz.func43,Tryz.ntmps43
  go_wp2_with fail
  refine HNUM.out.mono ?_
  rintro e w1 ⟨rfl,hr1,hg1⟩
  have hj1:=HJ.out w1 hr1 hg1
  obtain ⟨p,hB,hp,hdr⟩:=id hr1
  have hr2:RdB (w1.setCell ⟨rb,2,none⟩ (.bool true)) rb b ⟨s1.rest,true⟩:=⟨p,hB.set_ 2 _,hp,hdr⟩
  have hj2:=HCALL.out _ _ _ _ _ hj1 hr2 (grown_setCell w1 ⟨rb,2,none⟩ _)
  have c2:=(hB.cell 2).trans (show _=some (Value.bool s1.bad) from rfl)
  have f2:=hB.frozen 2
  have d2:=((hB.set_ 2 (.bool true)).cell 2).trans (show _=some (Value.bool true) from rfl)
  have HJ2:=Lib.hid hj2
  clear hr1 hg1 hj1 hB hp hdr hr2 hj2 HNUM HJ HRD HCALL HITEM
  by_cases h0:n < 0
  ·have z0:¬ (0:Int) < n:=by omega
   clear hbad
   go_wp2_with fail
   go_loopw [4] (fun v4 wr => v4=.int .i64 n ∧ (w1.setCell ⟨rb,2,none⟩ (.bool true))=wr) (fun _ _ => 0)
   case atStart => exact ⟨rfl,rfl⟩
   case round =>
    obtain ⟨rfl,rfl⟩:=hrel
    go_wp2_with fail
    go_end0
    exact ⟨rfl,HJ2.out⟩
  ·have z0:(0:Int) < n:=by omega
   have z1:(256:Int) < n:=by omega
   clear hbad
   go_wp2_with fail
   go_loopw [4] (fun v4 wr => v4=.int .i64 n ∧ (w1.setCell ⟨rb,2,none⟩ (.bool true))=wr) (fun _ _ => 0)
   case atStart => exact ⟨rfl,rfl⟩
   case round =>
    obtain ⟨rfl,rfl⟩:=hrel
    go_wp2_with fail
    go_end0
    exact ⟨rfl,HJ2.out⟩
 ·rw [if_neg hbad]
  obtain ⟨m,rfl⟩:∃ m:Nat,n=(m:Int):=⟨n.toNat,by omega⟩
  rw [Int.toNat_natCast]
  have hm:m ≤ 256:=by omega
  have z0:¬ (m:Int) < 0:=by omega
  have z1:¬ (256:Int) < (m:Int):=by omega
  clear hbad hin
  go_enter Tryz.func43,Tryz.ntmps43
  go_wp2_with fail
  refine HNUM.out.mono ?_
  rintro e w1 ⟨rfl,hr1,hg1⟩
  have HJ1:=Lib.hid (HJ.out w1 hr1 hg1)
  clear hr1 hg1 HNUM HJ
  go_wp2_with fail
  go_loopw [4] (fun v4 wr => ∃ (k:Nat) (l:List α) (s':RS),k ≤ m ∧ v4=.int .i64 (k:Int) ∧ l.length+k ≤ m ∧ J l s' wr ∧ timesR item m s1=(l ++ (timesR item k s').1,(timesR item k s').2)) (fun v4 _ => (intOf v4).toNat)
  case atStart => exact ⟨m,[],s1,Nat.le_refl _,rfl,by show 0+m ≤ m; omega,HJ1.out,rfl⟩
  case round =>
   obtain ⟨k,l,s',hk,rfl,hlk,hj,ht⟩:=hrel
   obtain ⟨p,hB,hp,hdr⟩:=HRD.out _ _ _ hj
   have c2:=(hB.cell 2).trans (show _=some (Value.bool s'.bad) from rfl)
   have HJK:=Lib.hid hj
   have HT:=Lib.hid ht
   clear hj ht hB hp hdr
   cases k with
   | zero =>
    have zk:¬ (0:Int) < ((0:Nat):Int):=by omega
    go_wp2_with fail
    go_end0
    refine ⟨rfl,?_⟩
    have e:=HT.out
    rw [show timesR item 0 s'=([],s') from rfl,List.append_nil] at e
    rw [e]; exact HJK.out
   | succ k =>
    have zk:(0:Int) < ((k+1:Nat):Int):=by omega
    have zs:((k+1:Nat):Int) - 1=(k:Int):=by omega
    obtain ⟨k1,hk1⟩:∃ k1,k+1=k1:=⟨_,rfl⟩
    rw [hk1] at zk zs hk hlk ⊢
    have HK1:=Lib.hid hk1
    clear hk1
    obtain ⟨bd,hbd⟩:∃ bd,s'.bad=bd:=⟨_,rfl⟩
    rw [hbd] at c2
    cases bd with
    | true =>
     have HBD:=Lib.hid hbd
     clear hbd
     go_wp2_with fail
     go_end0
     refine ⟨rfl,?_⟩
     have e:=HT.out
     rw [show timesR item (k+1) s'=([],s') from if_pos HBD.out,List.append_nil] at e
     rw [e]; exact HJK.out
    | false =>
     have HBD:=Lib.hid hbd
     have hit:=HITEM.out l s' wr (by have:=HK1.out; omega) HJK.out
     have HIT:=Lib.hid hit
     clear hbd hit
     go_wp2_with fail
     refine HIT.out.mono ?_
     rintro e w2 ⟨rfl,hj2⟩
     have HJ2:=Lib.hid hj2
     clear hj2
     go_wp2_with fail
     go_roundw
     case measure => have:=HK1.out; simp [intOf]; omega
     case rel => exact ⟨k,_,_,by have:=HK1.out; omega,by go_num,by have:=HK1.out; rw [List.length_append]; show _+1+k ≤ m; omega,HJ2.out,by
      have e:=HT.out
      rw [show timesR item (k+1) s'=_ from if_neg (by rw [HBD.out]; simp)] at e
      rw [e,List.append_assoc]; rfl⟩
structure RSt (w W : World) (b : ByteArray) (tb : Nat) (s : RS) (st : Stm) (va vc vs : Value) : Prop where
  rd : RdB W (w.heap.size + 1) b s
  ptr : Blk W (w.heap.size + 2) 83 #[.pointer (some ⟨w.heap.size + 1, 0, none⟩)]
  res : Blk W w.heap.size 29 stmZ
  blk : Blk W tb 29 #[.string st.resp, .int .i64 st.dep, .int .i64 st.day, va, vc, vs]
  oa : W.ownsRow tb 47 3 va st.ans.length (ansC st.ans)
  os : W.ownsRow tb 49 2 vs st.shw.length (shwC st.shw)
  cc : TermsAt W (fun q => tb < q ∧ q < W.heap.size ∧ va.ownBlock ≠ some q ∧ vs.ownBlock ≠ some q) vc st.cond
  old : Below w.heap.size w W
  tlt : w.heap.size + 2 < tb
section
variable {w W W' : World} {b : ByteArray} {tb : Nat} {s s' : RS} {st : Stm} {va vc vs : Value} {o : Obj}
theorem RSt.call (h : RSt w W b tb s st va vc vs) (hr : RdB W' (w.heap.size + 1) b s') (hg : W.grownBy W' (some (w.heap.size + 1))) : RSt w W' b tb s' st va vc vs := by
 have h1:=h.tlt
 have l1:=h.blk.lt
 have kb:∀ q,q < W.heap.size → q ≠ w.heap.size+1 → W'.heap[q]?=W.heap[q]?:=fun q hq hne => hg.block q hq (fun e => hne (Option.some.inj e))
 have kr:∀ v:Value,(∀ g,v.ownBlock=some g → tb ≤ g) → v.ownBlock=none ∨ v.ownBlock ≠ some (w.heap.size+1):=fun v hv => by
  rcases hb:v.ownBlock with _ | q
  ·exact .inl rfl
  ·refine .inr fun e => ?_
   injection e with e
   have:=hv q hb
   omega
 exact ⟨hr,(kb _ (by omega) (by omega)).trans h.ptr,(kb _ (by omega) (by omega)).trans h.res,(kb tb l1 (by omega)).trans h.blk,h.oa.kept hg (kr va fun g hg => (h.oa.lt g hg).1),h.os.kept hg (kr vs fun g hg => (h.os.lt g hg).1),
  (h.cc.keep fun q hq => kb q hq.2.1 (by omega)).mono fun q hq => ⟨hq.1,Nat.lt_of_lt_of_le hq.2.1 hg.size,hq.2.2⟩,
  h.old.grown hg (by omega) (fun g hg => by injection hg; omega),h1⟩
theorem RSt.below (h : RSt w W b tb s st va vc vs) (hb : Below W.heap.size W W') : RSt w W' b tb s st va vc vs :=
 h.call (h.rd.keep (hb.block _ h.rd.lt)) (only_of_below hb _)
theorem RSt.alloc (h : RSt w W b tb s st va vc vs) (o : Obj) : RSt w (W.alloc o) b tb s st va vc vs := h.below (below_al' W o)
theorem RSt.drew (h : RSt w W b tb s st va vc vs) : RSt w W.drew b tb s st va vc vs := h.below (Below.refl _ _).drew
theorem RSt.c3 (h : RSt w W b tb s st va vc vs) : W.cell? ⟨tb,3,none⟩ = some va := (h.blk.cell 3).trans rfl
theorem RSt.c5 (h : RSt w W b tb s st va vc vs) : W.cell? ⟨tb,5,none⟩ = some vs := (h.blk.cell 5).trans rfl
theorem RSt.cp (h : RSt w W b tb s st va vc vs) : W.cell? ⟨w.heap.size + 2,0,none⟩ = some (.pointer (some ⟨w.heap.size + 1,0,none⟩)) := (h.ptr.cell 0).trans rfl
theorem RSt.pushA (h : RSt w W b tb s st va vc vs) {v' : Value} {a : Ans} (hown : W'.ownsRow tb 47 3 v' (st.ans.length + 1) (ansC st.ans ++ [.string a.field,.string a.text,.int .i64 a.num])) (hg : (W.alloc o).grownBy W' va.ownBlock) (hat : v'.ownBlock = va.ownBlock ∨ v'.ownBlock = some (W.heap.size + 1)) :
  RSt w (W'.setCell ⟨tb,3,none⟩ v') b tb s { st with ans:=st.ans ++ [a] } v' vc vs ∧ W'.cell? ⟨tb,3,none⟩=some va ∧ W'.frozen? ⟨tb,3,none⟩=false:=by
 have hva:=own_above h.oa h.blk (by decide)
 have h1:=h.tlt
 have l1:=h.blk.lt
 have hsz:=hg.size
 simp only [World.size_alloc] at hsz
 have kb:∀ q,q < W.heap.size → va.ownBlock ≠ some q → W'.heap[q]?=W.heap[q]?:=fun q hq hne => (hg.block q (by simp; omega) (fun e => hne e.symm)).trans (Below.heap_alloc W o q hq)
 have kl:∀ q,q ≤ tb → W'.heap[q]?=W.heap[q]?:=fun q hq => kb q (by omega) (fun e => by have:=hva q e; omega)
 have hb:Blk W' tb 29 #[.string st.resp,.int .i64 st.dep,.int .i64 st.day,va,vc,vs]:=(kl tb (Nat.le_refl _)).trans h.blk
 have hset:W'.grownBy (W'.setCell ⟨tb,3,none⟩ v') (some tb):=grown_setCell W' ⟨tb,3,none⟩ v'
 have hss:=hset.size
 have k2:∀ q,q < W.heap.size → va.ownBlock ≠ some q → q ≠ tb → (W'.setCell ⟨tb,3,none⟩ v').heap[q]?=W.heap[q]?:=fun q hq hne h9 => (hset.block q (by omega) (fun e => h9 (Option.some.inj e))).trans (kb q hq hne)
 have k3:∀ q,q < tb → (W'.setCell ⟨tb,3,none⟩ v').heap[q]?=W.heap[q]?:=fun q hq => k2 q (by omega) (fun e => by have:=hva q e; omega) (by omega)
 have hav:∀ g,v'.ownBlock=some g → tb < g:=own_above hown hb (by decide)
 have hos:W'.ownsRow tb 49 2 vs st.shw.length (shwC st.shw):=(h.os.alloc o).kept hg (own_ne h.os h.oa (by decide))
 refine ⟨⟨h.rd.keep (k3 _ (by omega)),(k3 _ (by omega)).trans h.ptr,(k3 _ (by omega)).trans h.res,hb.set_ 3 v',?_,hos.kept hset (.inr fun e => by have:=own_above hos hb (by decide) tb e; omega),?_,?_,h1⟩,(hb.cell 3).trans rfl,hb.frozen 3⟩
 ·show (W'.setCell _ _).ownsRow tb _ 3 v' (st.ans ++ [a]).length (ansC (st.ans ++ [a]))
  rw [List.length_append,ansC_snoc]
  exact hown.kept hset (.inr fun e => by have:=hav tb e; omega)
 ·exact (h.cc.keep fun q hq => k2 q hq.2.1 hq.2.2.1 (by omega)).mono fun q hq => ⟨hq.1,by have:=hq.2.1; omega,fun e => by
   rcases hat with e2 | e2
   ·exact hq.2.2.1 (e2 ▸ e)
   ·rw [e2] at e; injection e with e; have:=hq.2.1; omega,hq.2.2.2⟩
 ·exact ⟨hset.os.trans (hg.os.trans h.old.os),hset.tape.trans (hg.tape.trans h.old.tape),hset.output.trans (hg.output.trans h.old.output),by have:=h.old.size; omega,fun q hq => (k3 q (by omega)).trans (h.old.block q hq)⟩
theorem RSt.pushS (h : RSt w W b tb s st va vc vs) {v' : Value} {a : Shw} (hown : W'.ownsRow tb 49 2 v' (st.shw.length + 1) (shwC st.shw ++ [.string a.field,.string a.role])) (hg : (W.alloc o).grownBy W' vs.ownBlock) (hat : v'.ownBlock = vs.ownBlock ∨ v'.ownBlock = some (W.heap.size + 1)) :
  RSt w (W'.setCell ⟨tb,5,none⟩ v') b tb s { st with shw:=st.shw ++ [a] } va vc v' ∧ W'.cell? ⟨tb,5,none⟩=some vs ∧ W'.frozen? ⟨tb,5,none⟩=false:=by
 have hva:=own_above h.os h.blk (by decide)
 have h1:=h.tlt
 have l1:=h.blk.lt
 have hsz:=hg.size
 simp only [World.size_alloc] at hsz
 have kb:∀ q,q < W.heap.size → vs.ownBlock ≠ some q → W'.heap[q]?=W.heap[q]?:=fun q hq hne => (hg.block q (by simp; omega) (fun e => hne e.symm)).trans (Below.heap_alloc W o q hq)
 have kl:∀ q,q ≤ tb → W'.heap[q]?=W.heap[q]?:=fun q hq => kb q (by omega) (fun e => by have:=hva q e; omega)
 have hb:Blk W' tb 29 #[.string st.resp,.int .i64 st.dep,.int .i64 st.day,va,vc,vs]:=(kl tb (Nat.le_refl _)).trans h.blk
 have hset:W'.grownBy (W'.setCell ⟨tb,5,none⟩ v') (some tb):=grown_setCell W' ⟨tb,5,none⟩ v'
 have hss:=hset.size
 have k2:∀ q,q < W.heap.size → vs.ownBlock ≠ some q → q ≠ tb → (W'.setCell ⟨tb,5,none⟩ v').heap[q]?=W.heap[q]?:=fun q hq hne h9 => (hset.block q (by omega) (fun e => h9 (Option.some.inj e))).trans (kb q hq hne)
 have k3:∀ q,q < tb → (W'.setCell ⟨tb,5,none⟩ v').heap[q]?=W.heap[q]?:=fun q hq => k2 q (by omega) (fun e => by have:=hva q e; omega) (by omega)
 have hav:∀ g,v'.ownBlock=some g → tb < g:=own_above hown hb (by decide)
 have hoa:W'.ownsRow tb 47 3 va st.ans.length (ansC st.ans):=(h.oa.alloc o).kept hg (own_ne h.oa h.os (by decide))
 refine ⟨⟨h.rd.keep (k3 _ (by omega)),(k3 _ (by omega)).trans h.ptr,(k3 _ (by omega)).trans h.res,hb.set_ 5 v',hoa.kept hset (.inr fun e => by have:=own_above hoa hb (by decide) tb e; omega),?_,?_,?_,h1⟩,(hb.cell 5).trans rfl,hb.frozen 5⟩
 ·show (W'.setCell _ _).ownsRow tb _ 2 v' (st.shw ++ [a]).length (shwC (st.shw ++ [a]))
  rw [List.length_append,shwC_snoc]
  exact hown.kept hset (.inr fun e => by have:=hav tb e; omega)
 ·exact (h.cc.keep fun q hq => k2 q hq.2.1 hq.2.2.2 (by omega)).mono fun q hq => ⟨hq.1,by have:=hq.2.1; omega,hq.2.2.1,fun e => by
   rcases hat with e2 | e2
   ·exact hq.2.2.2 (e2 ▸ e)
   ·rw [e2] at e; injection e with e; have:=hq.2.1; omega⟩
 ·exact ⟨hset.os.trans (hg.os.trans h.old.os),hset.tape.trans (hg.tape.trans h.old.tape),hset.output.trans (hg.output.trans h.old.output),by have:=h.old.size; omega,fun q hq => (k3 q (by omega)).trans (h.old.block q hq)⟩
end
section
variable {w : World} {b : ByteArray} {tb : Nat} {st : Stm} {va vc vs : Value}
theorem rs_text (hb : b.size ≤ 1000000) (s : RS) (x : ByteArray) (s1 : RS) (h1 : (rdT s).1 = x) (h2 : (rdT s).2 = s1) (W : World) (h : RSt w W b tb s st va vc vs) : Calls Tryz.prog 41 #[.pointer (some ⟨w.heap.size + 1,0,none⟩)] W fun e W' => e = .returned (.string x) ∧ RSt w W' b tb s1 st va vc vs := by
 subst h1 h2
 exact (r_textS b (w.heap.size+1) s W hb h.rd).mono fun e W' ⟨he,hr,hg⟩ => ⟨he,h.call hr hg⟩
theorem rs_num (hb : b.size ≤ 1000000) (s : RS) (x : Int) (s1 : RS) (h1 : (rdI s).1 = x) (h2 : (rdI s).2 = s1) (W : World) (h : RSt w W b tb s st va vc vs) : Calls Tryz.prog 42 #[.pointer (some ⟨w.heap.size + 1,0,none⟩)] W fun e W' => e = .returned (.int .i64 x) ∧ RSt w W' b tb s1 st va vc vs := by
 subst h1 h2
 exact (r_number b (w.heap.size+1) s W hb h.rd).mono fun e W' ⟨he,hr,hg⟩ => ⟨he,h.call hr hg⟩
end
set_option maxRecDepth 100000 in
set_option maxHeartbeats 4000000 in
theorem rd_item1 {w : World} {b : ByteArray} {tb : Nat} {s : RS} {st : Stm} {va vc vs : Value} (W : World) (hb : b.size ≤ 1000000) (hl : st.ans.length ≤ 1000) (h : RSt w W b tb s st va vc vs) :
  Calls Tryz.prog 44 #[.pointer (some ⟨tb,0,none⟩),.pointer (some ⟨w.heap.size+2,0,none⟩)] W fun e W' => e=.returned (.tuple #[]) ∧ ∃ v',RSt w W' b tb (rdAns s).2 { st with ans:=st.ans ++ [(rdAns s).1] } v' vc vs:=by
 obtain ⟨i0,hi,hz0,hz1,hz2⟩:=info_parts infoAn
 obtain ⟨f1,hf1⟩:∃ x,(rdT s).1=x:=⟨_,rfl⟩
 obtain ⟨s1,hs1⟩:∃ x,(rdT s).2=x:=⟨_,rfl⟩
 obtain ⟨f2,hf2⟩:∃ x,(rdT s1).1=x:=⟨_,rfl⟩
 obtain ⟨s2,hs2⟩:∃ x,(rdT s1).2=x:=⟨_,rfl⟩
 obtain ⟨n3,hn3⟩:∃ x,(rdI s2).1=x:=⟨_,rfl⟩
 obtain ⟨s3,hs3⟩:∃ x,(rdI s2).2=x:=⟨_,rfl⟩
 have hit:rdAns s=(⟨f1,f2,n3⟩,s3):=by unfold rdAns; rw [hf1,hs1,hf2,hs2,hn3,hs3]
 have h3:=fun (W:World) (h:RSt w W b tb s2 st va vc vs) => rs_num hb s2 n3 s3 hn3 hs3 W h
 have H3:=Lib.hid h3
 clear h3 hn3 hs3
 have h1:=fun (W:World) (h:RSt w W b tb s st va vc vs) => rs_text hb s f1 s1 hf1 hs1 W h
 have h2:=fun (W:World) (h:RSt w W b tb s1 st va vc vs) => rs_text hb s1 f2 s2 hf2 hs2 W h
 rw [hit]
 have H1:=Lib.hid h1
 have H2:=Lib.hid h2
 have H:=Lib.hid h
 obtain ⟨Av,cv,hve⟩:=own_slice h.oa
 subst hve
 obtain ⟨m,hm⟩:∃ m,st.ans.length=m:=⟨_,rfl⟩
 rw [hm] at hl H H1 H2 H3
 have HM:=Lib.hid hm
 have tlt:=h.tlt
 have x0:=h.c3
 have x1:=pt_drew h.c3
 have x2:=h.cp
 have x3:=pt_drew h.cp
 rw [hm] at x0 x1
 clear h1 h2 h hf1 hs1 hf2 hs2 hit hm
 have hmx:Tryz.prog.follows .mixedOrders=true:=by kernel_rfl
 go_enter Tryz.func44,Tryz.ntmps44
 go_upto_region 0 with fail
 refine wp_region_last_lit _ _ (fun W => W.cell? ⟨tb,3,none⟩=some (.slice Av m cv) ∧ W.cell? ⟨w.heap.size+2,0,none⟩=some (.pointer (some ⟨w.heap.size+1,0,none⟩))) hmx rfl (by kernel_rfl) ⟨x0,x2⟩ (fun hS => ?_)
 simp only [List.dropLast]
 refine t1 0 rfl ?_
 try simp only [pt]
 refine t1 1 rfl ?_
 try simp only [pt]
 refine t1 2 rfl ?_
 try simp only [pt]
 refine t1 4 rfl ?_
 try simp only [pt]
 refine t1 6 rfl ?_
 try simp only [pt]
 refine wpAnyH_ready (rs:=[3]) (by kernel_rfl) (by simp) ?_
 refine AllReadyH.cons rfl (fun K hK => ?_) AllReadyH.nil
 go_simp
 refine (H1.out _ H.out.drew).mono ?_
 rintro e w5 ⟨rfl,h5⟩
 have H5:=Lib.hid h5
 clear h5
 refine hK.out _ _ (⟨H5.out.c3,H5.out.cp⟩) (fun hHeld => ?_)
 clear hK K
 try simp only [pt]
 refine wpAnyH_ready (rs:=[5]) (by kernel_rfl) (by simp) ?_
 refine AllReadyH.cons rfl (fun K hK => ?_) AllReadyH.nil
 go_simp
 refine (H2.out _ H5.out).mono ?_
 rintro e w6 ⟨rfl,h6⟩
 have H6:=Lib.hid h6
 clear h6
 refine hK.out _ _ (⟨H6.out.c3,H6.out.cp⟩) (fun hHeld => ?_)
 clear hK K
 try simp only [pt]
 refine wpAnyH_ready (rs:=[7]) (by kernel_rfl) (by simp) ?_
 refine AllReadyH.cons rfl (fun K hK => ?_) AllReadyH.nil
 go_simp
 refine (H3.out _ H6.out).mono ?_
 rintro e w7 ⟨rfl,h7⟩
 have HW:=Lib.hid h7
 have l7:=h7.blk.lt
 have ho7:=h7.oa
 rw [HM.out] at ho7
 have HOW:=Lib.hid ho7
 clear ho7
 clear h7
 refine hK.out _ _ (⟨HW.out.c3,HW.out.cp⟩) (fun hHeld => ?_)
 clear hK K
 try simp only [pt]
 refine t1 8 rfl ?_
 try simp only [pt]
 refine wpAnyH_ready (rs:=[9]) (by kernel_rfl) (by simp) ?_
 refine AllReadyH.cons rfl (fun K hK => ?_) AllReadyH.nil
 go_simp
 refine hK.out _ _ (⟨(HW.out.alloc _).c3,(HW.out.alloc _).cp⟩) (fun hHeld => ?_)
 clear hK K
 try simp only [pt]
 refine wpAnyH_ready (rs:=[10]) (by kernel_rfl) (by simp) ?_
 refine AllReadyH.cons rfl (fun K hK => ?_) AllReadyH.nil
 refine step_append_lies _ (by rfl) _ _ _ (by rfl) tb 47 i0 _ 3 40 Tryz.underlying23 hi hz0 hz1 hz2 rfl (by omega) _ m (ansC st.ans) (by rfl) (HOW.out.alloc _) ⟨w7.heap.size,0,none⟩ 1 1 [.string f1,.string f2,.int .i64 n3] (by rfl) (by rfl) (World.news_of_block (cs:=#[.string f1,.string f2,.int .i64 n3]) (t:=47) (fr:=(0,0)) (heap_alloc_new w7 _)) (by intro u hu; simp at hu; rcases hu with rfl | rfl | rfl <;> rfl) (by omega) (by simp only [maxLen]; omega) (by omega) (by simp; omega) (w7.heap.size+1) (by simp) ?_
 intro gg cap w10 hown10 hgr10 hat10 hlt10
 have hx10:w10.ownsRow tb 47 3 (.slice (some ⟨gg,0,none⟩) (m+1) cap) (st.ans.length+1) (ansC st.ans ++ [.string f1,.string f2,.int .i64 n3]):=by rw [HM.out]; exact hown10
 have MO:=Lib.hid (HW.out.pushA (a:=⟨f1,f2,n3⟩) hx10 hgr10 (by rcases hat10 with e | e; exact .inl e.symm; exact .inr (by rw [e]; rfl)))
 have mc:=MO.out.2.1
 have mf:=MO.out.2.2
 have mp:w10.cell? ⟨w.heap.size+2,0,none⟩=some (.pointer (some ⟨w.heap.size+1,0,none⟩)):=(World.cell?_setCell_other w10 _ ⟨w.heap.size+2,0,none⟩ _ (by intro e; injection e; omega)).symm.trans MO.out.1.cp
 clear hown10 hgr10 hat10 hx10
 refine hK.out _ _ (⟨mc,mp⟩) (fun hHeld => ?_)
 clear hK K
 try simp only [pt]
 refine t1 11 rfl ?_
 try simp only [pt]
 refine wpAnyH_done (by kernel_rfl) ?_ _
 refine lastQ_step (by rfl) (by rfl) ?_
 go_simp
 go_wp2_with fail
 go_end0
 exact ⟨rfl,_,MO.out.1⟩
set_option maxRecDepth 100000 in
set_option maxHeartbeats 4000000 in
theorem rd_item2 {w : World} {b : ByteArray} {tb : Nat} {s : RS} {st : Stm} {va vc vs : Value} (W : World) (hb : b.size ≤ 1000000) (hl : st.shw.length ≤ 1000) (h : RSt w W b tb s st va vc vs) :
  Calls Tryz.prog 46 #[.pointer (some ⟨tb,0,none⟩),.pointer (some ⟨w.heap.size+2,0,none⟩)] W fun e W' => e=.returned (.tuple #[]) ∧ ∃ v',RSt w W' b tb (rdShw s).2 { st with shw:=st.shw ++ [(rdShw s).1] } va vc v':=by
 obtain ⟨i0,hi,hz0,hz1,hz2⟩:=info_parts infoSw
 obtain ⟨f1,hf1⟩:∃ x,(rdT s).1=x:=⟨_,rfl⟩
 obtain ⟨s1,hs1⟩:∃ x,(rdT s).2=x:=⟨_,rfl⟩
 obtain ⟨f2,hf2⟩:∃ x,(rdT s1).1=x:=⟨_,rfl⟩
 obtain ⟨s2,hs2⟩:∃ x,(rdT s1).2=x:=⟨_,rfl⟩
 have hit:rdShw s=(⟨f1,f2⟩,s2):=by unfold rdShw; rw [hf1,hs1,hf2,hs2]
 have h1:=fun (W:World) (h:RSt w W b tb s st va vc vs) => rs_text hb s f1 s1 hf1 hs1 W h
 have h2:=fun (W:World) (h:RSt w W b tb s1 st va vc vs) => rs_text hb s1 f2 s2 hf2 hs2 W h
 rw [hit]
 have H1:=Lib.hid h1
 have H2:=Lib.hid h2
 have H:=Lib.hid h
 obtain ⟨Av,cv,hve⟩:=own_slice h.os
 subst hve
 obtain ⟨m,hm⟩:∃ m,st.shw.length=m:=⟨_,rfl⟩
 rw [hm] at hl H H1 H2
 have HM:=Lib.hid hm
 have tlt:=h.tlt
 have x0:=h.c5
 have x1:=pt_drew h.c5
 have x2:=h.cp
 have x3:=pt_drew h.cp
 rw [hm] at x0 x1
 clear h1 h2 h hf1 hs1 hf2 hs2 hit hm
 have hmx:Tryz.prog.follows .mixedOrders=true:=by kernel_rfl
 go_enter Tryz.func46,Tryz.ntmps46
 go_upto_region 0 with fail
 refine wp_region_last_lit _ _ (fun W => W.cell? ⟨tb,5,none⟩=some (.slice Av m cv) ∧ W.cell? ⟨w.heap.size+2,0,none⟩=some (.pointer (some ⟨w.heap.size+1,0,none⟩))) hmx rfl (by kernel_rfl) ⟨x0,x2⟩ (fun hS => ?_)
 simp only [List.dropLast]
 refine t1 0 rfl ?_
 try simp only [pt]
 refine t1 1 rfl ?_
 try simp only [pt]
 refine t1 2 rfl ?_
 try simp only [pt]
 refine t1 4 rfl ?_
 try simp only [pt]
 refine wpAnyH_ready (rs:=[3]) (by kernel_rfl) (by simp) ?_
 refine AllReadyH.cons rfl (fun K hK => ?_) AllReadyH.nil
 go_simp
 refine (H1.out _ H.out.drew).mono ?_
 rintro e w5 ⟨rfl,h5⟩
 have H5:=Lib.hid h5
 clear h5
 refine hK.out _ _ (⟨H5.out.c5,H5.out.cp⟩) (fun hHeld => ?_)
 clear hK K
 try simp only [pt]
 refine wpAnyH_ready (rs:=[5]) (by kernel_rfl) (by simp) ?_
 refine AllReadyH.cons rfl (fun K hK => ?_) AllReadyH.nil
 go_simp
 refine (H2.out _ H5.out).mono ?_
 rintro e w6 ⟨rfl,h6⟩
 have HW:=Lib.hid h6
 have l7:=h6.blk.lt
 have ho7:=h6.os
 rw [HM.out] at ho7
 have HOW:=Lib.hid ho7
 clear ho7
 clear h6
 refine hK.out _ _ (⟨HW.out.c5,HW.out.cp⟩) (fun hHeld => ?_)
 clear hK K
 try simp only [pt]
 refine t1 6 rfl ?_
 try simp only [pt]
 refine wpAnyH_ready (rs:=[7]) (by kernel_rfl) (by simp) ?_
 refine AllReadyH.cons rfl (fun K hK => ?_) AllReadyH.nil
 go_simp
 refine hK.out _ _ (⟨(HW.out.alloc _).c5,(HW.out.alloc _).cp⟩) (fun hHeld => ?_)
 clear hK K
 try simp only [pt]
 refine wpAnyH_ready (rs:=[8]) (by kernel_rfl) (by simp) ?_
 refine AllReadyH.cons rfl (fun K hK => ?_) AllReadyH.nil
 refine step_append_lies _ (by rfl) _ _ _ (by rfl) tb 49 i0 _ 2 32 Tryz.underlying27 hi hz0 hz1 hz2 rfl (by omega) _ m (shwC st.shw) (by rfl) (HOW.out.alloc _) ⟨w6.heap.size,0,none⟩ 1 1 [.string f1,.string f2] (by rfl) (by rfl) (World.news_of_block (cs:=#[.string f1,.string f2]) (t:=49) (fr:=(0,0)) (heap_alloc_new w6 _)) (by intro u hu; simp at hu; rcases hu with rfl | rfl <;> rfl) (by omega) (by simp only [maxLen]; omega) (by omega) (by simp; omega) (w6.heap.size+1) (by simp) ?_
 intro gg cap w10 hown10 hgr10 hat10 hlt10
 have hx10:w10.ownsRow tb 49 2 (.slice (some ⟨gg,0,none⟩) (m+1) cap) (st.shw.length+1) (shwC st.shw ++ [.string f1,.string f2]):=by rw [HM.out]; exact hown10
 have MO:=Lib.hid (HW.out.pushS (a:=⟨f1,f2⟩) hx10 hgr10 (by rcases hat10 with e | e; exact .inl e.symm; exact .inr (by rw [e]; rfl)))
 have mc:=MO.out.2.1
 have mf:=MO.out.2.2
 have mp:w10.cell? ⟨w.heap.size+2,0,none⟩=some (.pointer (some ⟨w.heap.size+1,0,none⟩)):=(World.cell?_setCell_other w10 _ ⟨w.heap.size+2,0,none⟩ _ (by intro e; injection e; omega)).symm.trans MO.out.1.cp
 clear hown10 hgr10 hat10 hx10
 refine hK.out _ _ (⟨mc,mp⟩) (fun hHeld => ?_)
 clear hK K
 try simp only [pt]
 refine t1 9 rfl ?_
 try simp only [pt]
 refine wpAnyH_done (by kernel_rfl) ?_ _
 refine lastQ_step (by rfl) (by rfl) ?_
 go_simp
 go_wp2_with fail
 go_end0
 exact ⟨rfl,_,MO.out.1⟩
structure RSo (w W : World) (b : ByteArray) (o : Option Nat) (s : RS) : Prop where
  rd : RdB W (w.heap.size + 1) b s
  ptr : Blk W (w.heap.size + 2) 83 #[.pointer (some ⟨w.heap.size + 1, 0, none⟩)]
  res : Blk W w.heap.size 29 stmZ
  blk : ∀ tb, o = some tb → Blk W tb 29 stmZ ∧ w.heap.size + 2 < tb
  old : Below w.heap.size w W
section
variable {w W W' : World} {b : ByteArray} {tb : Nat} {s s' : RS} {st : Stm} {va vc vs v : Value} {o : Option Nat} {L : List Trm}
theorem RSo.call (h : RSo w W b o s) (hr : RdB W' (w.heap.size + 1) b s') (hg : W.grownBy W' (some (w.heap.size + 1))) : RSo w W' b o s' := by
 have lp:=h.ptr.lt
 have kb:∀ q,q < W.heap.size → q ≠ w.heap.size+1 → W'.heap[q]?=W.heap[q]?:=fun q hq hne => hg.block q hq (fun e => hne (Option.some.inj e))
 exact ⟨hr,(kb _ lp (by omega)).trans h.ptr,(kb _ (by omega) (by omega)).trans h.res,fun tb ht => by
  obtain ⟨h1,h2⟩:=h.blk tb ht
  exact ⟨(kb _ h1.lt (by omega)).trans h1,h2⟩,h.old.grown hg (by omega) (fun g hg => by injection hg; omega)⟩
theorem RSo.text (hb : b.size ≤ 1000000) (x : ByteArray) (s1 : RS) (h1 : (rdT s).1 = x) (h2 : (rdT s).2 = s1) (W : World) (h : RSo w W b o s) : Calls Tryz.prog 41 #[.pointer (some ⟨w.heap.size + 1,0,none⟩)] W fun e W' => e = .returned (.string x) ∧ RSo w W' b o s1 := by
 subst h1 h2
 exact (r_textS b (w.heap.size+1) s W hb h.rd).mono fun e W' ⟨he,hr,hg⟩ => ⟨he,h.call hr hg⟩
theorem RSo.num (hb : b.size ≤ 1000000) (x : Int) (s1 : RS) (h1 : (rdI s).1 = x) (h2 : (rdI s).2 = s1) (W : World) (h : RSo w W b o s) : Calls Tryz.prog 42 #[.pointer (some ⟨w.heap.size + 1,0,none⟩)] W fun e W' => e = .returned (.int .i64 x) ∧ RSo w W' b o s1 := by
 subst h1 h2
 exact (r_number b (w.heap.size+1) s W hb h.rd).mono fun e W' ⟨he,hr,hg⟩ => ⟨he,h.call hr hg⟩
theorem RSo.drew (h : RSo w W b o s) : RSo w W.drew b o s := ⟨h.rd,h.ptr,h.res,h.blk,h.old.drew⟩
theorem RSo.al (h : RSo w W b none s) : RSo w (W.alloc (.cells stmZ 29)) b (some W.heap.size) s :=
 ⟨h.rd.keep (Below.heap_alloc W _ _ h.rd.lt),h.ptr.alloc _,h.res.alloc _,fun tb ht => by
  injection ht with e
  subst e
  exact ⟨Blk.new W _ _,h.ptr.lt⟩,h.old.alloc (Nat.le_trans h.old.size (Nat.le_refl _)) _⟩
theorem RSo.alD (h : RSo w W b none s) : RSo w (W.drew.alloc (.cells stmZ 29)) b (some W.heap.size) s := h.drew.al
theorem RSo.cp (h : RSo w W b o s) : W.cell? ⟨w.heap.size + 2,0,none⟩ = some (.pointer (some ⟨w.heap.size + 1,0,none⟩)) := (h.ptr.cell 0).trans rfl
theorem RSo.start (w : World) (b : ByteArray) : RSo w (((w.alloc (.cells stmZ 29)).alloc (.cells #[.string b,.int .i64 0,.bool false] 85)).alloc (.cells #[.pointer (some ⟨w.heap.size + 1,0,none⟩)] 83)) b none ⟨blOf b,false⟩ := by
 have h1:=Blk.new w 29 stmZ
 have h2:=Blk.new (w.alloc (.cells stmZ 29)) 85 #[.string b,.int .i64 0,.bool false]
 have h3:=Blk.new ((w.alloc (.cells stmZ 29)).alloc (.cells #[.string b,.int .i64 0,.bool false] 85)) 83 #[.pointer (some ⟨w.heap.size+1,0,none⟩)]
 rw [World.size_alloc] at h2
 rw [World.size_alloc,World.size_alloc] at h3
 exact ⟨⟨0,h2.alloc _,Nat.zero_le _,rfl⟩,h3,(h1.alloc _).alloc _,(fun tb ht => by cases ht),
  (((Below.refl _ w).alloc (Nat.le_refl _) _).alloc (by simp) _).alloc (by simp; omega) _⟩
theorem RSo.rst (h : RSo w W b (some tb) s) (r : ByteArray) (d y : Int) :
  RSt w ((((((W.setCell ⟨tb,0,none⟩ (.string r)).setCell ⟨tb,1,none⟩ (.int .i64 d)).setCell ⟨tb,2,none⟩ (.int .i64 y)).setCell ⟨tb,3,none⟩ (.slice none 0 0)).setCell ⟨tb,4,none⟩ (.slice none 0 0)).setCell ⟨tb,5,none⟩ (.slice none 0 0)) b tb s ⟨r,d,y,[],[],[]⟩ (.slice none 0 0) (.slice none 0 0) (.slice none 0 0):=by
 obtain ⟨hb,ht⟩:=h.blk tb rfl
 have hbl:=(((((hb.set_ 0 (.string r)).set_ 1 (.int .i64 d)).set_ 2 (.int .i64 y)).set_ 3 (.slice none 0 0)).set_ 4 (.slice none 0 0)).set_ 5 (.slice none 0 0)
 have hc:Chg W ((((((W.setCell ⟨tb,0,none⟩ (.string r)).setCell ⟨tb,1,none⟩ (.int .i64 d)).setCell ⟨tb,2,none⟩ (.int .i64 y)).setCell ⟨tb,3,none⟩ (.slice none 0 0)).setCell ⟨tb,4,none⟩ (.slice none 0 0)).setCell ⟨tb,5,none⟩ (.slice none 0 0)) (fun q => q=tb) :=
  Chg.setCell (Chg.setCell (Chg.setCell (Chg.setCell (Chg.setCell (Chg.setCell (Chg.refl W (fun q => q=tb)) ⟨tb,0,none⟩ (fun _ => rfl) _) ⟨tb,1,none⟩ (fun _ => rfl) _) ⟨tb,2,none⟩ (fun _ => rfl) _) ⟨tb,3,none⟩ (fun _ => rfl) _) ⟨tb,4,none⟩ (fun _ => rfl) _) ⟨tb,5,none⟩ (fun _ => rfl) _
 generalize ((((((W.setCell ⟨tb,0,none⟩ (.string r)).setCell ⟨tb,1,none⟩ (.int .i64 d)).setCell ⟨tb,2,none⟩ (.int .i64 y)).setCell ⟨tb,3,none⟩ (.slice none 0 0)).setCell ⟨tb,4,none⟩ (.slice none 0 0)).setCell ⟨tb,5,none⟩ (.slice none 0 0))=W2 at *
 have lr:=h.rd.lt
 have lp:=h.ptr.lt
 have ls:=h.res.lt
 exact ⟨h.rd.keep (hc.block _ lr (by omega)),(hc.block _ lp (by omega)).trans h.ptr,(hc.block _ ls (by omega)).trans h.res,hbl,World.ownsRow_nil _ _ _ _,World.ownsRow_nil _ _ _ _,terms_none _ _,
  ⟨hc.os.trans h.old.os,hc.tape.trans h.old.tape,hc.output.trans h.old.output,Nat.le_trans h.old.size hc.size,fun q hq => (hc.block q (Nat.lt_of_lt_of_le hq h.old.size) (by omega)).trans (h.old.block q hq)⟩,ht⟩
theorem RSo.rstA (h : RSo w W b none s) (r : ByteArray) (d y : Int) :
  RSt w (W.alloc (.cells #[.string r,.int .i64 d,.int .i64 y,.slice none 0 0,.slice none 0 0,.slice none 0 0] 29)) b W.heap.size s ⟨r,d,y,[],[],[]⟩ (.slice none 0 0) (.slice none 0 0) (.slice none 0 0) :=
 ⟨h.rd.keep (Below.heap_alloc W _ _ h.rd.lt),h.ptr.alloc _,h.res.alloc _,Blk.new W _ _,World.ownsRow_nil _ _ _ _,World.ownsRow_nil _ _ _ _,terms_none _ _,h.old.alloc h.old.size _,h.ptr.lt⟩
theorem RSt.condS (h : RSt w W b tb s st va vc vs) {N : Nat} (hT : TermsAt W (fun q => N ≤ q ∧ q < W.heap.size) v L) (ha : ∀ g,va.ownBlock = some g → g < N) (hs : ∀ g,vs.ownBlock = some g → g < N) (ht : tb < N) : RSt w (W.setCell ⟨tb,4,none⟩ v) b tb s { st with cond := L } va v vs := by
 have h1:=h.tlt
 have l1:=h.blk.lt
 have hset:W.grownBy (W.setCell ⟨tb,4,none⟩ v) (some tb):=grown_setCell W ⟨tb,4,none⟩ v
 have hss:=hset.size
 have k2:∀ q,q < W.heap.size → q ≠ tb → (W.setCell ⟨tb,4,none⟩ v).heap[q]?=W.heap[q]?:=fun q hq h9 => hset.block q hq (fun e => h9 (Option.some.inj e))
 refine ⟨h.rd.keep (k2 _ (by omega) (by omega)),(k2 _ (by omega) (by omega)).trans h.ptr,(k2 _ (by omega) (by omega)).trans h.res,h.blk.set_ 4 v,h.oa.kept hset (.inr fun e => by have:=own_above h.oa h.blk (by decide) tb e; omega),h.os.kept hset (.inr fun e => by have:=own_above h.os h.blk (by decide) tb e; omega),
  (hT.keep fun q hq => k2 q hq.2 (by omega)).mono fun q hq => ⟨by omega,by omega,fun e => by have:=ha q e; omega,fun e => by have:=hs q e; omega⟩,
  ⟨hset.os.trans h.old.os,hset.tape.trans h.old.tape,hset.output.trans h.old.output,Nat.le_trans h.old.size hss,fun q hq => (k2 q (Nat.lt_of_lt_of_le hq h.old.size) (by omega)).trans (h.old.block q hq)⟩,h1⟩
theorem RSt.at_ (h : RSt w W b tb s st va vc vs) : StmAt W (fun q => w.heap.size < q ∧ q < W.heap.size) va vc vs st := by
 have h1:=h.tlt
 exact ⟨(AnssAt.of_own h.oa).mono fun q hq => ⟨by omega,hq.2⟩,h.cc.mono fun q hq => ⟨by omega,hq.2.1⟩,(ShwsAt.of_own h.os).mono fun q hq => ⟨by omega,hq.2⟩⟩
theorem RSt.fin {W2 : World} (h : RSt w W b tb s st va vc vs)
  (hW2:W2=(((((W.setCell ⟨w.heap.size,0,none⟩ (.string st.resp)).setCell ⟨w.heap.size,1,none⟩ (.int .i64 st.dep)).setCell ⟨w.heap.size,2,none⟩ (.int .i64 st.day)).setCell ⟨w.heap.size,3,none⟩ va).setCell ⟨w.heap.size,4,none⟩ vc).setCell ⟨w.heap.size,5,none⟩ vs) :
   StmAt W2 (fun b => w.heap.size ≤ b ∧ b < W2.heap.size) va vc vs st ∧ Below w.heap.size w W2 ∧ Blk W2 w.heap.size 29 #[.string st.resp,.int .i64 st.dep,.int .i64 st.day,va,vc,vs]:=by
 have hc:Chg W W2 (fun q => q=w.heap.size):=by
  rw [hW2]
  exact Chg.setCell (Chg.setCell (Chg.setCell (Chg.setCell (Chg.setCell (Chg.setCell (Chg.refl W (fun q => q=w.heap.size)) ⟨w.heap.size,0,none⟩ (fun _ => rfl) _) ⟨w.heap.size,1,none⟩ (fun _ => rfl) _) ⟨w.heap.size,2,none⟩ (fun _ => rfl) _) ⟨w.heap.size,3,none⟩ (fun _ => rfl) _) ⟨w.heap.size,4,none⟩ (fun _ => rfl) _) ⟨w.heap.size,5,none⟩ (fun _ => rfl) _
 have hb:Blk W2 w.heap.size 29 #[.string st.resp,.int .i64 st.dep,.int .i64 st.day,va,vc,vs]:=by
  rw [hW2]
  exact (((((h.res.set_ 0 _).set_ 1 _).set_ 2 _).set_ 3 _).set_ 4 _).set_ 5 _
 have hs:=hc.size
 exact ⟨(h.at_.keep fun q hq => hc.block q hq.2 (by omega)).mono fun q hq => ⟨by omega,by omega⟩,
  ⟨hc.os.trans h.old.os,hc.tape.trans h.old.tape,hc.output.trans h.old.output,Nat.le_trans h.old.size hs,fun q hq => (hc.block q (Nat.lt_of_lt_of_le hq h.old.size) (by omega)).trans (h.old.block q hq)⟩,hb⟩
end
end Go.Proofs.YtfinaekeoeeogaaGreatDoor

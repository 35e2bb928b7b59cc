/- Contracts: a word is taken, if it fulfils a condition; else the reader panics. And more. -/
import Derived.Test.YtgdngfdeeadlnaaGreatDoorY21
import Derived.Test.YtgdngfdeeadlnaaGreatDoorY11
set_option linter.unusedVariables false
set_option linter.unusedSimpArgs false
namespace Go.Proofs.YtgdngfdeeadlnaaGreatDoor
open Go.RowKit Num
def TakePost (w : World) (rb : Nat) (s : ByteArray) (r : List UInt8) (o : Option (List UInt8 × List UInt8)) (e : Ending) (w' : World) : Prop :=
 w.grownBy w' (some rb) ∧ match o with
  | none => e=.panicked (wrongCh (posR s r:Int))
  | some (x,q) => e=.returned (.string (bsOf x)) ∧ Rd w' rb s q
theorem takeB_none {p : List UInt8 → Bool} {r : List UInt8} (h : wordB r = [] ∨ p (wordB r) = false) : takeB p r = none := by
 unfold takeB
 rw [if_neg]
 rintro ⟨h1,h2⟩
 rcases h with h | h
 ·exact h1 h
 ·rw [h] at h2; cases h2
theorem takeB_some {p : List UInt8 → Bool} {r : List UInt8} (h1 : wordB r ≠ []) (h2 : p (wordB r) = true) : takeB p r = some (wordB r,spaceB (r.drop (wordB r).length)) := by
 unfold takeB
 rw [if_pos ⟨h1,h2⟩]
theorem callFunc_body {K : FuncId} {fn : Func} (hf : Tryz.prog.funcs[K]? = some fn) (hb : fn.body.isNone = false) (hname : (fn.name == "runtime.NumGoroutine") = false) (args : Array Value) (W : World) : (callFunc K args).run Tryz.prog W = .ok (.enter K args) W := by
 have h1 : fn.name ≠ "runtime.NumGoroutine" := by simpa using hname
 have h2:¬ fn.body=none:=by intro h; rw [h] at hb; cases hb
 simp [callFunc,hf,h1,h2,Sem.run]
theorem toList_ne {l : List UInt8} (h : l ≠ []) : ((bsOf l).toList == []) = false ∧ (!(bsOf l).toList.isEmpty) = true ∧ ¬ (bsOf l).toList = [] := by
 have e:(bsOf l).toList=l:=by rw [ByteArray.toList_eq]; rfl
 rw [e]
 cases l with
 | nil => exact absurd rfl h
 | cons a r => exact ⟨rfl,rfl,by simp⟩
set_option maxRecDepth 100000 in
set_option maxHeartbeats 2000000 in
theorem f_take (rb K : Nat) (s : ByteArray) (r : List UInt8) (p : List UInt8 → Bool) (w : World) (hr : Rd w rb s r) (hs : s.size ≤ 100000) (hl : ParOk w)
  (hcf:∀ (args:Array Value) (W:World),(callFunc K args).run Tryz.prog W=.ok (.enter K args) W)
  (his:∀ n,wordB r ≠ [] → Calls Tryz.prog K #[.string (bsOf (wordB r))] (w.drewN n) (BoolBel (p (wordB r)) (w.drewN n))) :
  Calls Tryz.prog 160 #[.pointer (some ⟨rb,0,none⟩),.func (.func K) #[] #[]] w (TakePost w rb s r (takeB p r)):=by
 obtain ⟨hb,hp,hdr,hrl⟩:=hr.pos
 have hwl:=word_len r
 have HR:=Lib.hid hr
 have HIS:=Lib.hid his
 have HLI:=Lib.hid hl
 have HB:=Lib.hid hb
 have HDR:=Lib.hid hdr
 have hrbl:=hr.lt
 clear hr his hl hb hdr
 by_cases h0:wordB r = []
 ·have h1:(bsOf (wordB r))=⟨#[]⟩:=by rw [h0]; rfl
  have H0:=Lib.hid h0
  have H1:=Lib.hid h1
  clear h0 h1
  go_enter Tryz.func160,Tryz.ntmps160
  go_wp2_with fail
  refine (f_word rb s r w HR.out hs HLI.out).mono ?_
  rintro e w1 ⟨rfl,n,rfl⟩
  rw [H1.out]
  go_wp2_with fail
  refine (f_fail rb (posR s r) s _ (HB.out.drewN _)).mono ?_
  rintro e w1 ⟨rfl,rfl⟩
  go_wp2_with fail
  refine ⟨rfl,grown_drewN _ _ _,?_⟩
  rw [takeB_none (.inl H0.out)]
 ·obtain ⟨z1,z2,z3⟩:=toList_ne h0
  cases hp0:p (wordB r) with
  | false =>
   have H0:=Lib.hid h0
   have HP0:=Lib.hid hp0
   clear h0 hp0
   go_enter Tryz.func160,Tryz.ntmps160
   go_wp2_with fail
   refine (f_word rb s r w HR.out hs HLI.out).mono ?_
   rintro e w1 ⟨rfl,n,rfl⟩
   go_wp2_with fail
   refine (HIS.out n H0.out).mono ?_
   rw [HP0.out]
   rintro e w1 ⟨rfl,hb1⟩
   have hb2:Blk w1 rb 177 #[.string s,.int .i64 (posR s r:Int)]:=(hb1.block rb hrbl).trans HB.out
   have HB2:=Lib.hid hb2
   clear hb2
   go_wp2_with fail
   refine (f_fail rb (posR s r) s _ HB2.out).mono ?_
   rintro e w1 ⟨rfl,rfl⟩
   go_wp2_with fail
   refine ⟨rfl,(grown_drewN w n _).trans (only_of_below hb1 (some rb)),?_⟩
   rw [takeB_none (.inr HP0.out)]
  | true =>
   have H0:=Lib.hid h0
   have HP0:=Lib.hid hp0
   have hsz:=bsOf_data' (wordB r)
   have hq1:posR s r+(wordB r).length ≤ s.size:=by unfold posR; omega
   have hq2:(blOf s).drop (posR s r+(wordB r).length)=r.drop (wordB r).length:=by rw [← List.drop_drop,HDR.out]
   have HSZ:=Lib.hid hsz
   have HQ2:=Lib.hid hq2
   have q3:posR s r+(bsOf (wordB r)).size ≤ 100000:=by omega
   clear h0 hp0 hsz hq2
   go_enter Tryz.func160,Tryz.ntmps160
   go_wp2_with fail
   refine (f_word rb s r w HR.out hs HLI.out).mono ?_
   rintro e w1 ⟨rfl,n,rfl⟩
   go_wp2_with fail
   refine (HIS.out n H0.out).mono ?_
   rw [HP0.out]
   rintro e w1 ⟨rfl,hb1⟩
   have hb2:Blk w1 rb 177 #[.string s,.int .i64 (posR s r:Int)]:=(hb1.block rb hrbl).trans HB.out
   have c1:=(hb2.cell 1).trans (show _=some (Value.int .i64 (posR s r:Int)) from rfl)
   have f1:=hb2.frozen 1
   have hb3:Blk (w1.setCell ⟨rb,1,none⟩ (.int .i64 ((posR s r:Int)+((bsOf (wordB r)).size:Int)))) rb 177 #[.string s,.int .i64 ((posR s r+(wordB r).length:Nat):Int)]:=by
    have e:((posR s r:Int)+((bsOf (wordB r)).size:Int))=((posR s r+(wordB r).length:Nat):Int):=by rw [HSZ.out]; omega
    rw [e]
    exact hb2.set_ 1 _
   have hrd3:Rd (w1.setCell ⟨rb,1,none⟩ (.int .i64 ((posR s r:Int)+((bsOf (wordB r)).size:Int)))) rb s (r.drop (wordB r).length):=⟨_,hb3,hq1,HQ2.out⟩
   have HRD3:=Lib.hid hrd3
   clear hb2 hb3 hrd3
   go_wp2_with fail
   refine (f_space rb s _ _ HRD3.out hs).mono ?_
   rintro e w4 ⟨rfl,hrd4,hg4⟩
   have HRD4:=Lib.hid hrd4
   have HG4:=Lib.hid hg4
   clear hrd4 hg4
   go_wp2_with fail
   go_ret
   refine ⟨((grown_drewN w n _).trans (only_of_below hb1 (some rb))).trans ((grown_set w1 ⟨rb,1,none⟩ _).trans HG4.out),?_⟩
   rw [takeB_some H0.out HP0.out]
   exact ⟨rfl,HRD4.out⟩
set_option maxRecDepth 100000 in
set_option maxHeartbeats 2000000 in
theorem f_take1 (rb K : Nat) (q : Nat) (s : ByteArray) (r : List UInt8) (p : List UInt8 → Bool) (w : World) (hr : Rd w rb s r) (hs : s.size ≤ 100000) (hl : ParOk w)
  (hcf:∀ (args:Array Value) (W:World),(callFunc K args).run Tryz.prog W=.ok (.enter K args) W)
  (his:∀ n,wordB r ≠ [] → Calls Tryz.prog K #[.string (bsOf (wordB r)),.pointer (some ⟨q,0,none⟩)] (w.drewN n) (BoolBel (p (wordB r)) (w.drewN n))) :
  Calls Tryz.prog 160 #[.pointer (some ⟨rb,0,none⟩),.func (.func K) #[] #[.pointer (some ⟨q,0,none⟩)]] w (TakePost w rb s r (takeB p r)):=by
 obtain ⟨hb,hp,hdr,hrl⟩:=hr.pos
 have hwl:=word_len r
 have HR:=Lib.hid hr
 have HIS:=Lib.hid his
 have HLI:=Lib.hid hl
 have HB:=Lib.hid hb
 have HDR:=Lib.hid hdr
 have hrbl:=hr.lt
 clear hr his hl hb hdr
 by_cases h0:wordB r = []
 ·have h1:(bsOf (wordB r))=⟨#[]⟩:=by rw [h0]; rfl
  have H0:=Lib.hid h0
  have H1:=Lib.hid h1
  clear h0 h1
  go_enter Tryz.func160,Tryz.ntmps160
  go_wp2_with fail
  refine (f_word rb s r w HR.out hs HLI.out).mono ?_
  rintro e w1 ⟨rfl,n,rfl⟩
  rw [H1.out]
  go_wp2_with fail
  refine (f_fail rb (posR s r) s _ (HB.out.drewN _)).mono ?_
  rintro e w1 ⟨rfl,rfl⟩
  go_wp2_with fail
  refine ⟨rfl,grown_drewN _ _ _,?_⟩
  rw [takeB_none (.inl H0.out)]
 ·obtain ⟨z1,z2,z3⟩:=toList_ne h0
  cases hp0:p (wordB r) with
  | false =>
   have H0:=Lib.hid h0
   have HP0:=Lib.hid hp0
   clear h0 hp0
   go_enter Tryz.func160,Tryz.ntmps160
   go_wp2_with fail
   refine (f_word rb s r w HR.out hs HLI.out).mono ?_
   rintro e w1 ⟨rfl,n,rfl⟩
   go_wp2_with fail
   refine (HIS.out n H0.out).mono ?_
   rw [HP0.out]
   rintro e w1 ⟨rfl,hb1⟩
   have hb2:Blk w1 rb 177 #[.string s,.int .i64 (posR s r:Int)]:=(hb1.block rb hrbl).trans HB.out
   have HB2:=Lib.hid hb2
   clear hb2
   go_wp2_with fail
   refine (f_fail rb (posR s r) s _ HB2.out).mono ?_
   rintro e w1 ⟨rfl,rfl⟩
   go_wp2_with fail
   refine ⟨rfl,(grown_drewN w n _).trans (only_of_below hb1 (some rb)),?_⟩
   rw [takeB_none (.inr HP0.out)]
  | true =>
   have H0:=Lib.hid h0
   have HP0:=Lib.hid hp0
   have hsz:=bsOf_data' (wordB r)
   have hq1:posR s r+(wordB r).length ≤ s.size:=by unfold posR; omega
   have hq2:(blOf s).drop (posR s r+(wordB r).length)=r.drop (wordB r).length:=by rw [← List.drop_drop,HDR.out]
   have HSZ:=Lib.hid hsz
   have HQ2:=Lib.hid hq2
   have q3:posR s r+(bsOf (wordB r)).size ≤ 100000:=by omega
   clear h0 hp0 hsz hq2
   go_enter Tryz.func160,Tryz.ntmps160
   go_wp2_with fail
   refine (f_word rb s r w HR.out hs HLI.out).mono ?_
   rintro e w1 ⟨rfl,n,rfl⟩
   go_wp2_with fail
   refine (HIS.out n H0.out).mono ?_
   rw [HP0.out]
   rintro e w1 ⟨rfl,hb1⟩
   have hb2:Blk w1 rb 177 #[.string s,.int .i64 (posR s r:Int)]:=(hb1.block rb hrbl).trans HB.out
   have c1:=(hb2.cell 1).trans (show _=some (Value.int .i64 (posR s r:Int)) from rfl)
   have f1:=hb2.frozen 1
   have hb3:Blk (w1.setCell ⟨rb,1,none⟩ (.int .i64 ((posR s r:Int)+((bsOf (wordB r)).size:Int)))) rb 177 #[.string s,.int .i64 ((posR s r+(wordB r).length:Nat):Int)]:=by
    have e:((posR s r:Int)+((bsOf (wordB r)).size:Int))=((posR s r+(wordB r).length:Nat):Int):=by rw [HSZ.out]; omega
    rw [e]
    exact hb2.set_ 1 _
   have hrd3:Rd (w1.setCell ⟨rb,1,none⟩ (.int .i64 ((posR s r:Int)+((bsOf (wordB r)).size:Int)))) rb s (r.drop (wordB r).length):=⟨_,hb3,hq1,HQ2.out⟩
   have HRD3:=Lib.hid hrd3
   clear hb2 hb3 hrd3
   go_wp2_with fail
   refine (f_space rb s _ _ HRD3.out hs).mono ?_
   rintro e w4 ⟨rfl,hrd4,hg4⟩
   have HRD4:=Lib.hid hrd4
   have HG4:=Lib.hid hg4
   clear hrd4 hg4
   go_wp2_with fail
   go_ret
   refine ⟨((grown_drewN w n _).trans (only_of_below hb1 (some rb))).trans ((grown_set w1 ⟨rb,1,none⟩ _).trans HG4.out),?_⟩
   rw [takeB_some H0.out HP0.out]
   exact ⟨rfl,HRD4.out⟩
set_option maxHeartbeats 1000000 in
theorem g_kind (x : List UInt8) (w : World) :
  Calls Tryz.prog 161 #[.string (bsOf x)] w (BoolBel (decide (0 < kindB x)) w):=by
 by_cases h:0 < kindB x
 ·have e:decide (0 < kindB x)=true:=by simpa using h
  have E:=Lib.hid e
  rw [e]
  clear e
  go_enter Tryz.func161,Tryz.ntmps161
  go_wp2_with (go_at_call 159; refine (f_kindOf (bsOf x) _).mono ?_; rintro e w1 ⟨rfl,hb⟩; rw [blOf_bsOf])
  go_ret
  exact ⟨by first | rfl | (show Ending.returned (.bool (decide (0 < kindB x)))=_; rw [E.out]),hb⟩
 ·have e:decide (0 < kindB x)=false:=by simpa using h
  have E:=Lib.hid e
  rw [e]
  clear e
  go_enter Tryz.func161,Tryz.ntmps161
  go_wp2_with (go_at_call 159; refine (f_kindOf (bsOf x) _).mono ?_; rintro e w1 ⟨rfl,hb⟩; rw [blOf_bsOf])
  go_ret
  exact ⟨by first | rfl | (show Ending.returned (.bool (decide (0 < kindB x)))=_; rw [E.out]),hb⟩
set_option maxHeartbeats 1000000 in
theorem g_quote (x : List UInt8) (w : World) (hx : x ≠ []) :
  Calls Tryz.prog 165 #[.string (bsOf x)] w (BoolBel (x.headD 0 == 34) w):=by
 have hsz:=bsOf_data' x
 have hpos:0 < (bsOf x).size:=by rw [hsz]; exact List.length_pos_iff.2 hx
 have hg:(bsOf x)[0]=x.headD 0:=by
  have:=blOf_get (bsOf x) 0 hpos
  rw [blOf_bsOf] at this
  rw [← this,headD_get]
 have HG:=Lib.hid hg
 clear hsz hg
 by_cases h:x.headD 0=34
 ·have e:(x.headD 0 == 34)=true:=by simpa using h
  have t1:((((bsOf x)[0]).toNat:Int) == 34)=true:=by rw [HG.out,h]; rfl
  rw [e]
  clear e
  go_enter Tryz.func165,Tryz.ntmps165
  go_wp2_with fail
  go_ret
  exact ⟨rfl,Below.refl _ _⟩
 ·have e:(x.headD 0 == 34)=false:=by simpa using h
  have t1:((((bsOf x)[0]).toNat:Int) == 34)=false:=u8_ne (n:=34) (by decide) (by rw [HG.out]; exact h)
  rw [e]
  clear e
  go_enter Tryz.func165,Tryz.ntmps165
  go_wp2_with fail
  go_ret
  exact ⟨rfl,Below.refl _ _⟩
set_option maxHeartbeats 1000000 in
theorem g_exact (x c : List UInt8) (q : Nat) (w : World) (hc : w.cell? ⟨q,0,none⟩ = some (.string (bsOf c))) :
  Calls Tryz.prog 188 #[.string (bsOf x),.pointer (some ⟨q,0,none⟩)] w (BoolBel (x == c) w):=by
 by_cases h:x=c
 ·have e:(x == c)=true:=by simpa using h
  have t1:=seq_true (show bsOf x=bsOf c by rw [h])
  rw [e]
  clear e h
  go_enter Tryz.func188,Tryz.ntmps188
  go_wp2_with fail
  go_ret
  exact ⟨rfl,Below.refl _ _⟩
 ·have e:(x == c)=false:=by simpa using h
  have t1:((bsOf x).toList == (bsOf c).toList)=false:=seq_false (by rw [blOf_bsOf,blOf_bsOf]; exact h)
  rw [e]
  clear e h
  go_enter Tryz.func188,Tryz.ntmps188
  go_wp2_with fail
  go_ret
  exact ⟨rfl,Below.refl _ _⟩
set_option maxRecDepth 100000 in
set_option maxHeartbeats 1000000 in
theorem g_num (x : List UInt8) (w : World) (hx : x.length ≤ 100000) (hl : ParOk w) :
  Calls Tryz.prog 187 #[.string (bsOf x)] w (BoolBel (numB' x) w):=by
 have hsz:=bsOf_data' x
 have hs1:(bsOf x).size ≤ 100000:=by omega
 have HL:=Lib.hid hl
 clear hl
 rcases hat:Lib.atoiAll x with u | _ | _
 ·have HAT:=Lib.hid hat
  by_cases h3:x.length ≤ 3
  ·have q3:(bsOf x).size ≤ 3:=by omega
   have q4:decide (((bsOf x).size:Int) ≤ 3)=true:=by simp; omega
   by_cases hi:Lib.itoa u=x
   ·have e:numB' x=true:=by unfold numB' isNumB; rw [hat]; simp [h3,hi]
    have t1:((bsOf (Lib.itoa u)).toList == (bsOf x).toList)=true:=seq_true (by rw [hi])
    rw [e]
    clear e hi hat hsz h3
    go_enter Tryz.func187,Tryz.ntmps187
    go_wp2_with fail
    refine (i_Atoi (bsOf x) _ (by omega) HL.out).mono ?_
    rw [blOf_bsOf]
    rintro e w1 (⟨v,hv,rfl,v1,v2,hb⟩ | ⟨hno,-⟩)
    ·obtain rfl:u=v:=by rw [HAT.out] at hv; injection hv
     have HL1:=Lib.hid (HL.out.later hb).tab
     clear hv
     go_wp2_with (go_at_call 78; refine (i_Itoa u _ HL1.out v1 v2).mono ?_; rintro e w2 ⟨rfl,hb2⟩)
     go_ret
     exact ⟨rfl,hb.trans (hb2.mono hb.size)⟩
    ·exact absurd HAT.out (hno u)
   ·have e:numB' x=false:=by unfold numB' isNumB; rw [hat]; simp [h3,hi]
    have t1:((bsOf (Lib.itoa u)).toList == (bsOf x).toList)=false:=seq_false (by rw [blOf_bsOf,blOf_bsOf]; exact hi)
    rw [e]
    clear e hi hat hsz h3
    go_enter Tryz.func187,Tryz.ntmps187
    go_wp2_with fail
    refine (i_Atoi (bsOf x) _ (by omega) HL.out).mono ?_
    rw [blOf_bsOf]
    rintro e w1 (⟨v,hv,rfl,v1,v2,hb⟩ | ⟨hno,-⟩)
    ·obtain rfl:u=v:=by rw [HAT.out] at hv; injection hv
     have HL1:=Lib.hid (HL.out.later hb).tab
     clear hv
     go_wp2_with (go_at_call 78; refine (i_Itoa u _ HL1.out v1 v2).mono ?_; rintro e w2 ⟨rfl,hb2⟩)
     go_ret
     exact ⟨rfl,hb.trans (hb2.mono hb.size)⟩
    ·exact absurd HAT.out (hno u)
  ·have q4:decide (((bsOf x).size:Int) ≤ 3)=false:=by simp; omega
   have e:numB' x=false:=by unfold numB' isNumB; rw [hat]; simp [h3]
   rw [e]
   clear e hat hsz h3
   go_enter Tryz.func187,Tryz.ntmps187
   go_wp2_with fail
   refine (i_Atoi (bsOf x) _ (by omega) HL.out).mono ?_
   rw [blOf_bsOf]
   rintro e w1 (⟨v,hv,rfl,v1,v2,hb⟩ | ⟨hno,-⟩)
   ·clear hv
    go_wp2_with fail
    go_ret
    exact ⟨rfl,hb⟩
   ·exact absurd HAT.out (hno u)
 all_goals
  have e:numB' x=false:=by unfold numB' isNumB; rw [hat]; rfl
  have HAT:=Lib.hid hat
  rw [e]
  clear e hat hsz
  go_enter Tryz.func187,Tryz.ntmps187
  go_wp2_with fail
  refine (i_Atoi (bsOf x) _ (by omega) HL.out).mono ?_
  rw [blOf_bsOf]
  rintro e w1 (⟨v,hv,-⟩ | ⟨hno,v,tp,p,rfl,hb⟩)
  ·rw [HAT.out] at hv; cases hv
  ·clear hno
   go_wp2_with fail
   go_ret
   exact ⟨rfl,hb⟩
def GoPost (w : World) (rb : Nat) (s : ByteArray) (r : List UInt8) (o : Option (List UInt8 × List UInt8)) (e : Ending) (w' : World) : Prop :=
 w.grownBy w' (some rb) ∧ match o with
  | none => e=.panicked (wrongCh (posR s r:Int))
  | some (_,q) => e=.returned (.tuple #[]) ∧ Rd w' rb s q
theorem Rd.below {w w' : World} {rb : Nat} {s : ByteArray} {r : List UInt8} (h : Rd w rb s r) (hb : Below w.heap.size w w') : Rd w' rb s r := h.keep (hb.block rb h.lt)
set_option maxRecDepth 100000 in
set_option maxHeartbeats 2000000 in
theorem f_exactly (rb : Nat) (c : List UInt8) (s : ByteArray) (r : List UInt8) (w : World) (hr : Rd w rb s r) (hs : s.size ≤ 100000) (hl : ParOk w) :
  Calls Tryz.prog 164 #[.pointer (some ⟨rb,0,none⟩),.string (bsOf c)] w (GoPost w rb s r (takeB (· == c) r)):=by
 have hb:Below w.heap.size w (w.alloc (.cells #[.string (bsOf c)] 9)):=(Below.refl _ _).alloc (Nat.le_refl _) _
 have h:=f_take1 rb 188 w.heap.size s r (· == c) (w.alloc (.cells #[.string (bsOf c)] 9)) (hr.below hb) hs (hl.later hb)
  (callFunc_body Tryz.func188 (by kernel_rfl) (by kernel_rfl)) (fun n _ => g_exact (wordB r) c w.heap.size _ (by show (w.alloc _).cell? _=_; simp))
 have H:=Lib.hid h
 have HB:=Lib.hid hb
 clear h hb hr hl
 cases ht:takeB (· == c) r with
 | none =>
  have HT:=Lib.hid ht
  clear ht
  go_enter Tryz.func164,Tryz.ntmps164
  go_wp2_with fail
  refine H.out.mono ?_
  rw [HT.out]
  rintro e w1 ⟨hg,rfl⟩
  go_wp2_with fail
  exact ⟨rfl,(only_of_below HB.out (some rb)).trans hg,rfl⟩
 | some o =>
  obtain ⟨x,q⟩:=o
  have HT:=Lib.hid ht
  clear ht
  go_enter Tryz.func164,Tryz.ntmps164
  go_wp2_with fail
  refine H.out.mono ?_
  rw [HT.out]
  rintro e w1 ⟨hg,rfl,hrd⟩
  have HRD:=Lib.hid hrd
  clear hrd
  go_wp2_with fail
  go_end0
  exact ⟨(only_of_below HB.out (some rb)).trans hg,rfl,HRD.out⟩
def NumPost (w : World) (rb : Nat) (s : ByteArray) (r : List UInt8) (o : Option (Int × List UInt8)) (e : Ending) (w' : World) : Prop :=
 w.grownBy w' (some rb) ∧ match o with
  | none => e=.panicked (wrongCh (posR s r:Int))
  | some (n,q) => e=.returned (.int .i64 n) ∧ Rd w' rb s q
theorem TabOk.grown {w w' : World} {row : Option Nat} (h : TabOk w) (hg : w.grownBy w' row) (hr : ∀ b,row = some b → 7 < b) : TabOk w' := by
 have e : Tryz.prog.globalNamed "internal/strconv.uint64pow10" = some 4 := by kernel_rfl
 have hlt:=tab_lt h
 unfold TabOk Lib.TabIs World.var? at h ⊢
 rw [e] at h ⊢
 simp only [Option.bind_some] at h ⊢
 rw [hg.block _ hlt (fun e' => by have:=hr _ e'.symm; omega)]
 exact h
theorem ParOk.grown {w w' : World} {row : Option Nat} (h : ParOk w) (hg : w.grownBy w' row) (hr : ∀ b,row = some b → 7 < b) : ParOk w' := by
 have hs:=h.size
 have key:∀ g,g ≤ 7 → w'.cell? ⟨g,0,none⟩=w.cell? ⟨g,0,none⟩:=fun g hg6 => World.cell?_of_block (hg.block g (by omega) (fun e => by have:=hr _ e.symm; omega))
 refine ⟨⟨h.tab.grown hg hr,?_,Nat.le_trans hs hg.size⟩,?_,?_⟩
 ·obtain ⟨m,e⟩:=h.most; exact ⟨m,(key _ (by decide)).trans e⟩
 ·obtain ⟨tp,p,e⟩:=h.err1; exact ⟨tp,p,(key _ (by decide)).trans e⟩
 ·obtain ⟨tp,p,e⟩:=h.err2; exact ⟨tp,p,(key _ (by decide)).trans e⟩
set_option maxRecDepth 100000 in
set_option maxHeartbeats 2000000 in
theorem f_number (rb : Nat) (s : ByteArray) (r : List UInt8) (w : World) (hr : Rd w rb s r) (h6 : 7 < rb) (hs : s.size ≤ 100000) (hl : ParOk w) :
  Calls Tryz.prog 163 #[.pointer (some ⟨rb,0,none⟩)] w (NumPost w rb s r (numF r)):=by
 have hrl:=hr.pos.2.2.2
 have hwl:=word_len r
 have h:=f_take rb 187 s r numB' w hr hs hl
  (callFunc_body Tryz.func187 (by kernel_rfl) (by kernel_rfl)) (fun n _ => g_num (wordB r) _ (by omega) (hl.grown (grown_drewN w n none) (fun b hb => by cases hb)))
 have H:=Lib.hid h
 have HL:=Lib.hid hl
 clear h hr hl
 cases ht:takeB numB' r with
 | none =>
  have e:numF r=none:=by unfold numF; rw [ht]
  have HT:=Lib.hid ht
  rw [e]
  clear ht e
  go_enter Tryz.func163,Tryz.ntmps163
  go_wp2_with fail
  refine H.out.mono ?_
  rw [HT.out]
  rintro e w1 ⟨hg,rfl⟩
  go_wp2_with fail
  exact ⟨rfl,hg,rfl⟩
 | some o =>
  obtain ⟨x,q⟩:=o
  obtain ⟨t1,t2,t3,t4⟩:=take_sp (a:=[]) ht
  obtain ⟨n,hn⟩:∃ n,isNumB x=some n:=by unfold numB' at t3; exact Option.isSome_iff_exists.1 t3
  have e:numF r=some (n,q):=by unfold numF; rw [ht]; simp only [hn]
  have hxl:x.length ≤ 100000:=by rw [t2]; omega
  have hat:Lib.atoiAll x=.ok n:=by
   unfold isNumB at hn
   split at hn
   ·rename_i v hv
    split at hn
    ·injection hn with hn; rw [hv,hn]
    ·cases hn
   ·cases hn
  have hsz:=bsOf_data' x
  have hs1:(bsOf x).size ≤ 1000000:=by omega
  have HT:=Lib.hid ht
  have HAT:=Lib.hid hat
  rw [e]
  clear ht e t1 t2 t3 t4 hn hat hsz
  go_enter Tryz.func163,Tryz.ntmps163
  go_wp2_with fail
  refine H.out.mono ?_
  rw [HT.out]
  rintro e w1 ⟨hg,rfl,hrd⟩
  have hl1:ParOk w1:=HL.out.grown hg (fun b hb => by injection hb with hb; omega)
  have HL1:=Lib.hid hl1
  have HRD:=Lib.hid hrd
  clear hrd hl1
  go_wp2_with fail
  refine (i_Atoi (bsOf x) _ hs1 HL1.out).mono ?_
  rw [blOf_bsOf]
  rintro e w2 (⟨v,hv,rfl,v1,v2,hb⟩ | ⟨hno,-⟩)
  ·obtain rfl:n=v:=by rw [HAT.out] at hv; injection hv
   clear hv
   go_wp2_with fail
   go_ret
   exact ⟨hg.trans (only_of_below hb (some rb)),rfl,HRD.out.below hb⟩
  ·exact absurd HAT.out (hno n)
def NewS (w w' : World) (c : Nat) : Prop := w.heap.size ≤ c ∧ c < w'.heap.size
def CondPost (w : World) (rb : Nat) (s : ByteArray) (f : Nat) (pr : PR) (e : Ending) (w' : World) : Prop :=
 w.grownBy w' (some rb) ∧ match pr with
  | .bad q => e=.panicked (wrongCh (posR s q:Int))
  | .ok [T] q => ∃ v,e=.returned v ∧ Rd w' rb s q ∧ TreeZ w' (NewS w w') f v T
  | .ok _ _ => False
def ArgsPost (w : World) (rb : Nat) (s : ByteArray) (f : Nat) (pr : PR) (e : Ending) (w' : World) : Prop :=
 w.grownBy w' (some rb) ∧ match pr with
  | .bad q => e=.panicked (wrongCh (posR s q:Int))
  | .ok xs q => ∃ v ps,e=.returned v ∧ Rd w' rb s q ∧ w'.ownsRow w.heap.size 138 1 v xs.length ps ∧ KidZ w' (NewS w w') f ps xs
abbrev tz (k n y : Int) (f x : ByteArray) (u : Value) : Array Value := #[.int .i64 k,.int .i64 n,.int .i64 y,.string f,.string x,.slice none 0 0,u]
theorem tz_tree {w w' : World} {bt f m : Nat} {k n y : Int} {fd x : ByteArray} {u : Value} {xs : List Tree} {ps : List Value} (hb : Blk w' bt 169 (tz k n y fd x u)) (hlo : w.heap.size ≤ bt)
  (ho:w'.ownsRow w.heap.size 138 1 u m ps) (hm:m=xs.length) (hk:KidZ w' (NewS w w') f ps xs):TreeZ w' (NewS w w') (f+1) (.pointer (some ⟨bt,0,none⟩)) (.node (mkT k n y fd x) xs):=by
 have hlt:=hb.lt
 obtain ⟨A,j,c,rfl,hn,hc⟩:∃ A j c,u=.slice A j c ∧ j=m ∧ j ≤ c:=by
  rcases ho.2 with ⟨h1,h2⟩ | ⟨g,cap,cur,h1,_,_,h2,_⟩
  ·exact ⟨_,_,_,h1,h2.symm,Nat.le_refl _⟩
  ·exact ⟨_,_,_,h1,rfl,h2⟩
 refine ⟨bt,rfl,⟨hlo,hlt⟩,⟨hb.cell 0,hb.cell 1,hb.cell 2,hb.cell 3,hb.cell 4,hb.cell 5,rfl⟩,A,j,c,hb.cell 6,by omega,hc,fun hpos => ?_⟩
 obtain ⟨g,cap,hv,_⟩:=ho.form (by omega)
 injection hv with h1 _ _
 subst h1
 have hg:=ho.lt g rfl
 refine ⟨g,0,rfl,hg,fun i t hx => ?_⟩
 obtain ⟨p,hp,ht⟩:=hk i t hx
 refine ⟨p,?_,ht⟩
 have:=ho.cells (g:=g) rfl i p hp
 rw [Nat.zero_add]
 have ha:(⟨g,0,none⟩:Addr).add i=⟨g,i,none⟩:=by unfold Addr.add; split <;> simp_all
 rwa [ha] at this
theorem tz_leaf {w w' : World} {bt f : Nat} {k n y : Int} {fd x : ByteArray} (hb : Blk w' bt 169 (tz k n y fd x (.slice none 0 0))) (hlo : w.heap.size ≤ bt) :
  TreeZ w' (NewS w w') (f+1) (.pointer (some ⟨bt,0,none⟩)) (.node (mkT k n y fd x) []) :=
 tz_tree (ps:=[]) hb hlo (World.ownsRow_nil _ _ _ _) rfl (fun i t hx => by simp at hx)
theorem kindB_le (w : List UInt8) : kindB w ≤ 8 := by
  have:∀ L:List (List UInt8),idxB w L < L.length:=by
    intro L
    induction L with
    | nil => simp [idxB]
    | cons x r ih => unfold idxB; split; · simp <;> omega
                     · split
                       · simp <;> omega
                       · simp <;> omega
  have:=this nmB
  show idxB w nmB ≤ 8
  have e:nmB.length=9:=rfl
  omega
end Go.Proofs.YtgdngfdeeadlnaaGreatDoor

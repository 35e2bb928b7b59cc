/- Contracts: the reader's words. And more. -/
import Derived.Test.YtgdngfdeeadlnaaGreatDoorZ15
set_option linter.unusedVariables false
set_option linter.unusedSimpArgs false
namespace Go.Proofs.YtgdngfdeeadlnaaGreatDoor
open Go.RowKit Num
theorem extract_drop (t : ByteArray) (i j : Nat) : t.extract i j = bsOf (((blOf t).drop i).take (j - i)) := by
 apply blOf_inj
 rw [blOf_bsOf]
 show (t.extract i j).data.toList=_
 rw [ByteArray.data_extract,Array.toList_extract]
theorem bsOf_data' (l : List UInt8) : (bsOf l).size = l.length := by show l.toArray.size = _; simp
theorem index_quote (l : List UInt8) : Lib.index l [34] = if 34 ∈ l then ((l.takeWhile (· ≠ 34)).length : Int) else -1 := by
 induction l with
 | nil => rfl
 | cons b l ih =>
  unfold Lib.index
  by_cases h:b=34
  ·subst h; simp [List.isPrefixOf]
  ·have h1:List.isPrefixOf [34] (b :: l)=false:=by
    simp [List.isPrefixOf]; exact fun e => h e.symm
   rw [h1]
   simp only [Bool.false_eq_true,if_false]
   have h2:(34 ∈ b :: l) ↔ 34 ∈ l:=by
    rw [List.mem_cons]; exact ⟨fun e => e.resolve_left (fun e => h e.symm),.inr⟩
   by_cases hm:34 ∈ l
   ·have e1:Lib.index l [34]=((l.takeWhile (· ≠ 34)).length:Int):=by rw [ih,if_pos hm]
    have e2:¬ (((l.takeWhile (· ≠ 34)).length:Int) == -1)=true:=by
     rw [beq_iff_eq]; omega
    rw [e1,if_neg e2,if_pos (h2.2 hm),List.takeWhile_cons,if_pos (decide_eq_true h)]
    simp
   ·have e1:Lib.index l [34] = -1:=by rw [ih,if_neg hm]
    rw [e1,if_neg (fun e => hm (h2.1 e))]; rfl
theorem cut_quote_yes {l : List UInt8} (h : 34 ∈ l) : (Lib.cut l [34]).1 = l.takeWhile (· ≠ 34) ∧ (Lib.cut l [34]).2.2 = true := by
 unfold Lib.cut
 rw [index_quote,if_pos h,if_pos (by omega)]
 refine ⟨?_,rfl⟩
 simp only [Int.toNat_natCast]
 have:=List.takeWhile_prefix (p:=fun x => decide (x ≠ 34)) (l:=l)
 exact (List.prefix_iff_eq_take.1 this).symm
theorem cut_quote_no {l : List UInt8} (h : ¬ 34 ∈ l) : (Lib.cut l [34]).2.2 = false := by
 unfold Lib.cut
 rw [index_quote,if_neg h,if_neg (by omega)]
theorem tw_snoc (p : UInt8 → Bool) (l : List UInt8) (k : Nat) (hk : k ≤ l.length) (h : ∀ j,j < k → p (l.getD j 0) = true) : (k = l.length ∨ p (l.getD k 0) = false) → l.takeWhile p = l.take k := by
 induction l generalizing k with
 | nil => intro _; simp
 | cons c l ih =>
  intro he
  cases k with
  | zero =>
   rcases he with h0 | h0
   ·simp at h0
   ·simp at h0; simp [h0]
  | succ k =>
   have h0:=h 0 (by omega)
   simp at h0
   rw [List.takeWhile_cons,if_pos h0,List.take_succ_cons]
   congr 1
   refine ih k (by simpa using hk) (fun j hj => by simpa using h (j+1) (by omega)) ?_
   rcases he with e | e
   ·left; simpa using e
   ·right; simpa using e
def sgI (c : UInt8) : Int := Lib.indexByte [40,41,44] c
theorem sgI_pos {c : UInt8} (h : signB c = true) : 0 ≤ sgI c := by
 have e:=indexByte_has [40,41,44] c
 have h2:[40,41,44].contains c=true:=by unfold signB at h; simpa [or_assoc] using h
 rw [h2] at e
 exact of_decide_eq_true e
theorem sgI_neg {c : UInt8} (h : signB c = false) : sgI c < 0 := by
 have e:=indexByte_has [40,41,44] c
 have h2:[40,41,44].contains c=false:=by unfold signB at h; simpa [and_assoc] using h
 rw [h2] at e
 have:=of_decide_eq_false e
 unfold sgI; omega
theorem i_signs (c : UInt8) (w : World) :
  Calls Tryz.prog 166 #[.string ⟨#[40,41,44]⟩,.int .u8 (c.toNat:Int)] w fun e w' => e=.returned (.int .i64 (sgI c)) ∧ w=w':=by
 refine (Tryz.strings_IndexByte ⟨#[40,41,44]⟩ (c.toNat:Int) w).mono ?_
 rintro e w' ⟨rfl,rfl⟩
 refine ⟨?_,rfl⟩
 have e:((c.toNat:Int)).toNat.toUInt8=c:=by simp
 rw [e]; rfl
theorem i_Cut (t : ByteArray) (w : World) (ht : t.size ≤ 1000000) (m : Int) (hm : w.cell? ⟨5,0,none⟩ = some (.int .i64 m)) :
  Calls Tryz.prog 209 #[.string t,.string ⟨#[34]⟩] w fun e w' => ∃ a,e=.returned (.tuple #[.string (bsOf (Lib.cut (blOf t) [34]).1),.string a,.bool (Lib.cut (blOf t) [34]).2.2]) ∧ ∃ n,w'=w.drewN n:=by
 refine (Tryz.strings_Cut t ⟨#[34]⟩ m w (by omega) hm).mono ?_
 rintro e w' ⟨rfl,n,rfl⟩
 exact ⟨_,rfl,n,rfl⟩
def WordPost (w : World) (l : List UInt8) (e : Ending) (w' : World) : Prop := e = .returned (.string (bsOf l)) ∧ ∃ n,w' = w.drewN n
set_option maxRecDepth 100000 in
set_option maxHeartbeats 2000000 in
theorem f_word (rb : Nat) (s : ByteArray) (r : List UInt8) (w : World) (hr : Rd w rb s r) (hs : s.size ≤ 100000) (hl : ParOk w) :
    Calls Tryz.prog 186 #[.pointer (some ⟨rb,0,none⟩)] w (WordPost w (wordB r)):=by
  obtain ⟨p,hb,hp,hdr⟩:=hr
  have c0:=(hb.cell 0).trans (show _=some (Value.string s) from rfl)
  have c1:=(hb.cell 1).trans (show _=some (Value.int .i64 (p:Int)) from rfl)
  have zp:(0:Int) ≤ (p:Int):=by omega
  have zp1:(p:Int) ≤ (s.size:Int):=by omega
  have HDR:=Lib.hid hdr
  clear hb hdr
  obtain ⟨rest,hre⟩:∃ t,s.extract p s.size=t:=⟨_,rfl⟩
  have hrl:blOf rest=r:=by
    have h1:=HDR.out
    rw [← hre,extract_drop,blOf_bsOf,← h1,List.take_of_length_le (by rw [List.length_drop,blOf_len]; omega)]
  have hrs:rest.size ≤ 100000:=by rw [← blOf_len,hrl,← HDR.out,List.length_drop,blOf_len]; omega
  obtain ⟨m,hm⟩:=hl.most
  have HRE:=Lib.hid hre
  have HRL:=Lib.hid hrl
  clear hre hrl hl HDR
  by_cases h0:rest.size=0
  · obtain rfl:=(show rest=⟨#[]⟩ from blOf_inj (List.eq_nil_of_length_eq_zero (by rw [blOf_len]; exact h0)))
    have hr0:r = []:=HRL.out.symm
    subst hr0
    clear h0 hrs
    go_enter Tryz.func186,Tryz.ntmps186
    go_wp2_with fail
    go_quiet (fail)
    rw [HRE.out]
    go_wp2_with fail
    go_ret
    exact ⟨rfl,_,rfl⟩
  · have z1:(rest.toList == [])=false:=by
      rw [ByteArray.toList_eq]
      cases hl:rest.data.toList with
      | nil => exact absurd (by rw [← blOf_len]; show rest.data.toList.length=0; rw [hl]; rfl) h0
      | cons a r => rfl
    have z2:(!rest.toList.isEmpty)=true:=by
      rw [ByteArray.toList_eq]
      cases hl:rest.data.toList with
      | nil => exact absurd (by rw [← blOf_len]; show rest.data.toList.length=0; rw [hl]; rfl) h0
      | cons a r => rfl
    have z3:¬ rest.toList = []:=by simpa using z1
    have hpos:0 < rest.size:=by omega
    have hpos1:1 ≤ rest.size:=by omega
    have hcc:r=rest[0] :: (blOf rest).drop (0+1):=HRL.out.symm.trans ((List.drop_zero).symm.trans (drop_cons hpos))
    obtain ⟨cs,hcs⟩:∃ cs,(blOf rest).drop (0+1)=cs:=⟨_,rfl⟩
    rw [hcs] at hcc
    have HCC:=Lib.hid hcc
    have HCS:=Lib.hid hcs
    have hch:=UInt8.toNat_lt rest[0]
    clear hcc hcs
    by_cases hsg:signB rest[0]=true
    · have q2:=sgI_pos hsg
      have q3:decide (0 ≤ sgI rest[0])=true:=by simpa using q2
      have hw:wordB r = [rest[0]]:=by rw [HCC.out]; exact word_sign hsg
      have hex:rest.extract 0 1=bsOf [rest[0]]:=by
        rw [extract_drop,List.drop_zero,HRL.out,HCC.out]; rfl
      have HW:=Lib.hid hw
      have HEX:=Lib.hid hex
      clear hsg hw h0 hex
      go_enter Tryz.func186,Tryz.ntmps186
      go_wp2_with fail
      go_quiet (fail)
      rw [HRE.out]
      go_wp2_with (go_at_call 166; refine (i_signs _ _).mono ?_; rintro e w' ⟨rfl,rfl⟩)
      go_ret
      exact ⟨by rw [HW.out,← HEX.out]; rfl,_,rfl⟩
    · have hsg':signB rest[0]=false:=by simpa using hsg
      have q2:=sgI_neg hsg'
      have q2':¬ 0 ≤ sgI rest[0]:=by omega
      have q3:decide (0 ≤ sgI rest[0])=false:=by simpa using q2'
      by_cases hq:rest[0]=34
      · have t1:((rest[0].toNat:Int) == 34)=true:=by rw [hq]; rfl
        have he1:blOf (rest.extract 1 rest.size)=cs:=by
          rw [extract_drop,blOf_bsOf,HRL.out,← HCS.out,HRL.out,List.take_of_length_le (by rw [List.length_drop]; have:=blOf_len rest; rw [HRL.out] at this; omega)]
        have hsz:(rest.extract 1 rest.size).size ≤ 100000:=by rw [← blOf_len,he1,← HCS.out,List.length_drop,blOf_len]; omega
        have hwq:wordB r=(if 34 ∈ cs then 34 :: (cs.takeWhile (· ≠ 34) ++ [34]) else []):=by
          rw [HCC.out,wordB_cons,hsg',hq]; simp
        have hm2:∀ q,(w.drewN q).cell? ⟨5,0,none⟩=some (.int .i64 m):=fun q => hm
        have HM:=Lib.hid hm2
        have HE1:=Lib.hid he1
        have HWQ:=Lib.hid hwq
        have HQ:=Lib.hid hq
        clear hsg hsg' hq he1 hwq hm2 h0 hm
        by_cases hin:34 ∈ cs
        · obtain ⟨k1,k2⟩:=cut_quote_yes hin
          have hlen:(cs.takeWhile (· ≠ 34)).length+2 ≤ rest.size:=by
            have:=word_len (34 :: cs)
            rw [wordB_cons,if_neg (by decide),if_pos rfl,if_pos hin] at this
            have h2:=blOf_len rest
            rw [HRL.out,HCC.out] at h2
            simp only [List.length_cons,List.length_append,List.length_nil] at this h2
            omega
          have hex:rest.extract 0 ((cs.takeWhile (· ≠ 34)).length+2)=bsOf (34 :: (cs.takeWhile (· ≠ 34) ++ [34])):=by
            rw [extract_drop,List.drop_zero,HRL.out,HCC.out,HQ.out]
            congr 1
            rw [Nat.sub_zero,List.take_succ_cons]
            congr 1
            have h1:∀ l:List UInt8,34 ∈ l → l.take ((l.takeWhile (· ≠ 34)).length+1)=l.takeWhile (· ≠ 34) ++ [34]:=by
              intro l
              induction l with
              | nil => intro h; cases h
              | cons d l ih =>
                intro hm
                by_cases hd:d=34
                · subst hd; simp
                · have hm':34 ∈ l:=(List.mem_cons.1 hm).resolve_left (fun e => hd e.symm)
                  rw [List.takeWhile_cons,if_pos (decide_eq_true hd),List.length_cons,List.take_succ_cons,ih hm']; rfl
            exact h1 cs hin
          have hw:wordB r=34 :: (cs.takeWhile (· ≠ 34) ++ [34]):=by rw [HWQ.out,if_pos hin]
          obtain ⟨tw,htw⟩:∃ tw,cs.takeWhile (· ≠ 34)=tw:=⟨_,rfl⟩
          rw [htw] at k1 hlen hex hw
          have zt:(bsOf tw).size=tw.length:=bsOf_data' tw
          have HK1:=Lib.hid k1
          have HK2:=Lib.hid k2
          have HEX:=Lib.hid hex
          have HW:=Lib.hid hw
          have HZT:=Lib.hid zt
          have q5:(bsOf tw).size+2 ≤ rest.size:=by omega
          clear k1 k2 hex hw htw hin zt hlen
          go_enter Tryz.func186,Tryz.ntmps186
          go_wp2_with fail
          go_quiet (fail)
          rw [HRE.out]
          go_wp2_with (first
            | (go_at_call 166; refine (i_signs _ _).mono ?_; rintro e w' ⟨rfl,rfl⟩)
            | (go_at_call 209; refine (i_Cut _ _ (by omega) m (HM.out _)).mono ?_; rintro e w' ⟨av,rfl,n2,rfl⟩; rw [HE1.out,HK1.out,HK2.out]))
          go_ret
          refine ⟨?_,⟨_,rfl⟩⟩
          rw [HW.out,← HEX.out,← HZT.out]
          rfl
        · have k2:=cut_quote_no hin
          have hw:wordB r = []:=by rw [HWQ.out,if_neg hin]
          have HK2:=Lib.hid k2
          have HW:=Lib.hid hw
          clear k2 hw hin
          go_enter Tryz.func186,Tryz.ntmps186
          go_wp2_with fail
          go_quiet (fail)
          rw [HRE.out]
          go_wp2_with (first
            | (go_at_call 166; refine (i_signs _ _).mono ?_; rintro e w' ⟨rfl,rfl⟩)
            | (go_at_call 209; refine (i_Cut _ _ (by omega) m (HM.out _)).mono ?_; rintro e w' ⟨av,rfl,n2,rfl⟩; rw [HE1.out,HK2.out]))
          go_ret
          refine ⟨?_,⟨_,rfl⟩⟩
          rw [HW.out]; rfl
      · have t1:((rest[0].toNat:Int) == 34)=false:=u8_ne (n:=34) (by decide) hq
        have hw:wordB r=r.takeWhile inWB:=by
          conv => lhs; rw [HCC.out,wordB_cons,hsg',if_neg (by decide),if_neg hq,← HCC.out]
        have hrlen:r.length=rest.size:=by rw [← HRL.out,blOf_len]
        have HW:=Lib.hid hw
        have HLN:=Lib.hid hrlen
        clear hsg hsg' hq hw h0 hm hrlen
        go_enter Tryz.func186,Tryz.ntmps186
        go_wp2_with fail
        go_quiet (fail)
        rw [HRE.out]
        go_wp2_with (go_at_call 166; refine (i_signs _ _).mono ?_; rintro e w' ⟨rfl,rfl⟩)
        go_loop [7] (fun v7 => ∃ k:Nat,k ≤ rest.size ∧ v7=.int .i64 (k:Int) ∧ ∀ j,j < k → inWB (r.getD j 0)=true) (fun v7 => rest.size - (intOf v7).toNat)
        case atStart => exact ⟨0,by omega,rfl,fun j hj => absurd hj (Nat.not_lt_zero _)⟩
        case round =>
          obtain ⟨k,hk,rfl,hne⟩:=hrel
          have HNE:=Lib.hid hne
          clear hne
          have z5:(0:Int) ≤ (k:Int):=by omega
          by_cases hlt:k < rest.size
          · have gk:r.getD k 0=rest[k]:=by rw [← HRL.out]; exact blOf_get rest k hlt
            have GK:=Lib.hid gk
            have hkb:=UInt8.toNat_lt rest[k]
            have q6:decide ((k:Int) < (rest.size:Int))=true:=by simpa using hlt
            have q7:decide (k < rest.size)=true:=by simpa using hlt
            have q8:(k:Int) < (rest.size:Int):=by omega
            clear gk
            cases hi:inWN (rest[k]).toNat with
            | true =>
              have HI:=Lib.hid hi
              clear hi
              go_wp2_with (go_at_call 136; refine (f_inWord _ _ hkb).mono ?_; rintro e w' ⟨rfl,rfl⟩; rw [HI.out])
              go_round
              case rel => exact ⟨k+1,by omega,by go_num,fun j hj => by
                rcases Nat.lt_or_ge j k with h | h
                · exact HNE.out j h
                · rw [show j=k by omega,GK.out,inWB_n]; exact HI.out⟩
              case measure => simp [intOf]; omega
            | false =>
              have HI:=Lib.hid hi
              have hex:rest.extract 0 k=bsOf (wordB r):=by
                rw [extract_drop,List.drop_zero,HRL.out,HW.out,tw_snoc inWB r k (by rw [HLN.out]; omega) HNE.out (.inr (by rw [GK.out,inWB_n]; exact hi))]; rfl
              have HEX:=Lib.hid hex
              clear hi hex
              go_wp2_with (go_at_call 136; refine (f_inWord _ _ hkb).mono ?_; rintro e w' ⟨rfl,rfl⟩; rw [HI.out])
              go_ret
              exact ⟨by rw [← HEX.out]; rfl,_,rfl⟩
          · have hkn:k=rest.size:=by omega
            have hex:rest.extract 0 k=bsOf (wordB r):=by
              rw [extract_drop,List.drop_zero,HRL.out,HW.out,tw_snoc inWB r k (by rw [HLN.out]; omega) HNE.out (.inl (by rw [HLN.out]; exact hkn))]; rfl
            have HEX:=Lib.hid hex
            have q6:decide ((k:Int) < (rest.size:Int))=false:=by simpa using hlt
            have q7:decide (k < rest.size)=false:=by simpa using hlt
            have q8:(k:Int) ≤ (rest.size:Int):=by omega
            clear hex hkn
            go_wp2_with fail
            go_ret
            exact ⟨by rw [← HEX.out]; rfl,_,rfl⟩
def TakePost (w : World) (rb : Nat) (s : ByteArray) (r : List UInt8) (o : Option (List UInt8 × List UInt8)) (e : Ending) (w' : World) : Prop :=
 w.grownBy w' (some rb) ∧ match o with
  | none => e=.panicked (wrongCh (posR s r:Int))
  | some (x,q) => e=.returned (.string (bsOf x)) ∧ Rd w' rb s q
theorem takeB_none {p : List UInt8 → Bool} {r : List UInt8} (h : wordB r = [] ∨ p (wordB r) = false) : takeB p r = none := by
 unfold takeB
 rw [if_neg]
 rintro ⟨h1,h2⟩
 rcases h with h | h
 ·exact h1 h
 ·rw [h] at h2; cases h2
theorem takeB_some {p : List UInt8 → Bool} {r : List UInt8} (h1 : wordB r ≠ []) (h2 : p (wordB r) = true) : takeB p r = some (wordB r,spaceB (r.drop (wordB r).length)) := by
 unfold takeB
 rw [if_pos ⟨h1,h2⟩]
theorem callFunc_body {K : FuncId} {fn : Func} (hf : Tryz.prog.funcs[K]? = some fn) (hb : fn.body.isNone = false) (hname : (fn.name == "runtime.NumGoroutine") = false) (args : Array Value) (W : World) : (callFunc K args).run Tryz.prog W = .ok (.enter K args) W := by
 have h1 : fn.name ≠ "runtime.NumGoroutine" := by simpa using hname
 have h2:¬ fn.body=none:=by intro h; rw [h] at hb; cases hb
 simp [callFunc,hf,h1,h2,Sem.run]
theorem toList_ne {l : List UInt8} (h : l ≠ []) : ((bsOf l).toList == []) = false ∧ (!(bsOf l).toList.isEmpty) = true ∧ ¬ (bsOf l).toList = [] := by
 have e:(bsOf l).toList=l:=by rw [ByteArray.toList_eq]; rfl
 rw [e]
 cases l with
 | nil => exact absurd rfl h
 | cons a r => exact ⟨rfl,rfl,by simp⟩
set_option maxRecDepth 100000 in
set_option maxHeartbeats 2000000 in
theorem f_take (rb K : Nat) (s : ByteArray) (r : List UInt8) (p : List UInt8 → Bool) (w : World) (hr : Rd w rb s r) (hs : s.size ≤ 100000) (hl : ParOk w)
  (hcf:∀ (args:Array Value) (W:World),(callFunc K args).run Tryz.prog W=.ok (.enter K args) W)
  (his:∀ n,wordB r ≠ [] → Calls Tryz.prog K #[.string (bsOf (wordB r))] (w.drewN n) (BoolBel (p (wordB r)) (w.drewN n))) :
  Calls Tryz.prog 160 #[.pointer (some ⟨rb,0,none⟩),.func (.func K) #[] #[]] w (TakePost w rb s r (takeB p r)):=by
 obtain ⟨hb,hp,hdr,hrl⟩:=hr.pos
 have hwl:=word_len r
 have HR:=Lib.hid hr
 have HIS:=Lib.hid his
 have HLI:=Lib.hid hl
 have HB:=Lib.hid hb
 have HDR:=Lib.hid hdr
 have hrbl:=hr.lt
 clear hr his hl hb hdr
 by_cases h0:wordB r = []
 ·have h1:(bsOf (wordB r))=⟨#[]⟩:=by rw [h0]; rfl
  have H0:=Lib.hid h0
  have H1:=Lib.hid h1
  clear h0 h1
  go_enter Tryz.func160,Tryz.ntmps160
  go_wp2_with fail
  refine (f_word rb s r w HR.out hs HLI.out).mono ?_
  rintro e w1 ⟨rfl,n,rfl⟩
  rw [H1.out]
  go_wp2_with fail
  refine (f_fail rb (posR s r) s _ (HB.out.drewN _)).mono ?_
  rintro e w1 ⟨rfl,rfl⟩
  go_wp2_with fail
  refine ⟨rfl,grown_drewN _ _ _,?_⟩
  rw [takeB_none (.inl H0.out)]
 ·obtain ⟨z1,z2,z3⟩:=toList_ne h0
  cases hp0:p (wordB r) with
  | false =>
   have H0:=Lib.hid h0
   have HP0:=Lib.hid hp0
   clear h0 hp0
   go_enter Tryz.func160,Tryz.ntmps160
   go_wp2_with fail
   refine (f_word rb s r w HR.out hs HLI.out).mono ?_
   rintro e w1 ⟨rfl,n,rfl⟩
   go_wp2_with fail
   refine (HIS.out n H0.out).mono ?_
   rw [HP0.out]
   rintro e w1 ⟨rfl,hb1⟩
   have hb2:Blk w1 rb 177 #[.string s,.int .i64 (posR s r:Int)]:=(hb1.block rb hrbl).trans HB.out
   have HB2:=Lib.hid hb2
   clear hb2
   go_wp2_with fail
   refine (f_fail rb (posR s r) s _ HB2.out).mono ?_
   rintro e w1 ⟨rfl,rfl⟩
   go_wp2_with fail
   refine ⟨rfl,(grown_drewN w n _).trans (only_of_below hb1 (some rb)),?_⟩
   rw [takeB_none (.inr HP0.out)]
  | true =>
   have H0:=Lib.hid h0
   have HP0:=Lib.hid hp0
   have hsz:=bsOf_data' (wordB r)
   have hq1:posR s r+(wordB r).length ≤ s.size:=by unfold posR; omega
   have hq2:(blOf s).drop (posR s r+(wordB r).length)=r.drop (wordB r).length:=by rw [← List.drop_drop,HDR.out]
   have HSZ:=Lib.hid hsz
   have HQ2:=Lib.hid hq2
   have q3:posR s r+(bsOf (wordB r)).size ≤ 100000:=by omega
   clear h0 hp0 hsz hq2
   go_enter Tryz.func160,Tryz.ntmps160
   go_wp2_with fail
   refine (f_word rb s r w HR.out hs HLI.out).mono ?_
   rintro e w1 ⟨rfl,n,rfl⟩
   go_wp2_with fail
   refine (HIS.out n H0.out).mono ?_
   rw [HP0.out]
   rintro e w1 ⟨rfl,hb1⟩
   have hb2:Blk w1 rb 177 #[.string s,.int .i64 (posR s r:Int)]:=(hb1.block rb hrbl).trans HB.out
   have c1:=(hb2.cell 1).trans (show _=some (Value.int .i64 (posR s r:Int)) from rfl)
   have f1:=hb2.frozen 1
   have hb3:Blk (w1.setCell ⟨rb,1,none⟩ (.int .i64 ((posR s r:Int)+((bsOf (wordB r)).size:Int)))) rb 177 #[.string s,.int .i64 ((posR s r+(wordB r).length:Nat):Int)]:=by
    have e:((posR s r:Int)+((bsOf (wordB r)).size:Int))=((posR s r+(wordB r).length:Nat):Int):=by rw [HSZ.out]; omega
    rw [e]
    exact hb2.set_ 1 _
   have hrd3:Rd (w1.setCell ⟨rb,1,none⟩ (.int .i64 ((posR s r:Int)+((bsOf (wordB r)).size:Int)))) rb s (r.drop (wordB r).length):=⟨_,hb3,hq1,HQ2.out⟩
   have HRD3:=Lib.hid hrd3
   clear hb2 hb3 hrd3
   go_wp2_with fail
   refine (f_space rb s _ _ HRD3.out hs).mono ?_
   rintro e w4 ⟨rfl,hrd4,hg4⟩
   have HRD4:=Lib.hid hrd4
   have HG4:=Lib.hid hg4
   clear hrd4 hg4
   go_wp2_with fail
   go_ret
   refine ⟨((grown_drewN w n _).trans (only_of_below hb1 (some rb))).trans ((grown_set w1 ⟨rb,1,none⟩ _).trans HG4.out),?_⟩
   rw [takeB_some H0.out HP0.out]
   exact ⟨rfl,HRD4.out⟩
set_option maxRecDepth 100000 in
set_option maxHeartbeats 2000000 in
theorem f_take1 (rb K : Nat) (q : Nat) (s : ByteArray) (r : List UInt8) (p : List UInt8 → Bool) (w : World) (hr : Rd w rb s r) (hs : s.size ≤ 100000) (hl : ParOk w)
  (hcf:∀ (args:Array Value) (W:World),(callFunc K args).run Tryz.prog W=.ok (.enter K args) W)
  (his:∀ n,wordB r ≠ [] → Calls Tryz.prog K #[.string (bsOf (wordB r)),.pointer (some ⟨q,0,none⟩)] (w.drewN n) (BoolBel (p (wordB r)) (w.drewN n))) :
  Calls Tryz.prog 160 #[.pointer (some ⟨rb,0,none⟩),.func (.func K) #[] #[.pointer (some ⟨q,0,none⟩)]] w (TakePost w rb s r (takeB p r)):=by
 obtain ⟨hb,hp,hdr,hrl⟩:=hr.pos
 have hwl:=word_len r
 have HR:=Lib.hid hr
 have HIS:=Lib.hid his
 have HLI:=Lib.hid hl
 have HB:=Lib.hid hb
 have HDR:=Lib.hid hdr
 have hrbl:=hr.lt
 clear hr his hl hb hdr
 by_cases h0:wordB r = []
 ·have h1:(bsOf (wordB r))=⟨#[]⟩:=by rw [h0]; rfl
  have H0:=Lib.hid h0
  have H1:=Lib.hid h1
  clear h0 h1
  go_enter Tryz.func160,Tryz.ntmps160
  go_wp2_with fail
  refine (f_word rb s r w HR.out hs HLI.out).mono ?_
  rintro e w1 ⟨rfl,n,rfl⟩
  rw [H1.out]
  go_wp2_with fail
  refine (f_fail rb (posR s r) s _ (HB.out.drewN _)).mono ?_
  rintro e w1 ⟨rfl,rfl⟩
  go_wp2_with fail
  refine ⟨rfl,grown_drewN _ _ _,?_⟩
  rw [takeB_none (.inl H0.out)]
 ·obtain ⟨z1,z2,z3⟩:=toList_ne h0
  cases hp0:p (wordB r) with
  | false =>
   have H0:=Lib.hid h0
   have HP0:=Lib.hid hp0
   clear h0 hp0
   go_enter Tryz.func160,Tryz.ntmps160
   go_wp2_with fail
   refine (f_word rb s r w HR.out hs HLI.out).mono ?_
   rintro e w1 ⟨rfl,n,rfl⟩
   go_wp2_with fail
   refine (HIS.out n H0.out).mono ?_
   rw [HP0.out]
   rintro e w1 ⟨rfl,hb1⟩
   have hb2:Blk w1 rb 177 #[.string s,.int .i64 (posR s r:Int)]:=(hb1.block rb hrbl).trans HB.out
   have HB2:=Lib.hid hb2
   clear hb2
   go_wp2_with fail
   refine (f_fail rb (posR s r) s _ HB2.out).mono ?_
   rintro e w1 ⟨rfl,rfl⟩
   go_wp2_with fail
   refine ⟨rfl,(grown_drewN w n _).trans (only_of_below hb1 (some rb)),?_⟩
   rw [takeB_none (.inr HP0.out)]
  | true =>
   have H0:=Lib.hid h0
   have HP0:=Lib.hid hp0
   have hsz:=bsOf_data' (wordB r)
   have hq1:posR s r+(wordB r).length ≤ s.size:=by unfold posR; omega
   have hq2:(blOf s).drop (posR s r+(wordB r).length)=r.drop (wordB r).length:=by rw [← List.drop_drop,HDR.out]
   have HSZ:=Lib.hid hsz
   have HQ2:=Lib.hid hq2
   have q3:posR s r+(bsOf (wordB r)).size ≤ 100000:=by omega
   clear h0 hp0 hsz hq2
   go_enter Tryz.func160,Tryz.ntmps160
   go_wp2_with fail
   refine (f_word rb s r w HR.out hs HLI.out).mono ?_
   rintro e w1 ⟨rfl,n,rfl⟩
   go_wp2_with fail
   refine (HIS.out n H0.out).mono ?_
   rw [HP0.out]
   rintro e w1 ⟨rfl,hb1⟩
   have hb2:Blk w1 rb 177 #[.string s,.int .i64 (posR s r:Int)]:=(hb1.block rb hrbl).trans HB.out
   have c1:=(hb2.cell 1).trans (show _=some (Value.int .i64 (posR s r:Int)) from rfl)
   have f1:=hb2.frozen 1
   have hb3:Blk (w1.setCell ⟨rb,1,none⟩ (.int .i64 ((posR s r:Int)+((bsOf (wordB r)).size:Int)))) rb 177 #[.string s,.int .i64 ((posR s r+(wordB r).length:Nat):Int)]:=by
    have e:((posR s r:Int)+((bsOf (wordB r)).size:Int))=((posR s r+(wordB r).length:Nat):Int):=by rw [HSZ.out]; omega
    rw [e]
    exact hb2.set_ 1 _
   have hrd3:Rd (w1.setCell ⟨rb,1,none⟩ (.int .i64 ((posR s r:Int)+((bsOf (wordB r)).size:Int)))) rb s (r.drop (wordB r).length):=⟨_,hb3,hq1,HQ2.out⟩
   have HRD3:=Lib.hid hrd3
   clear hb2 hb3 hrd3
   go_wp2_with fail
   refine (f_space rb s _ _ HRD3.out hs).mono ?_
   rintro e w4 ⟨rfl,hrd4,hg4⟩
   have HRD4:=Lib.hid hrd4
   have HG4:=Lib.hid hg4
   clear hrd4 hg4
   go_wp2_with fail
   go_ret
   refine ⟨((grown_drewN w n _).trans (only_of_below hb1 (some rb))).trans ((grown_set w1 ⟨rb,1,none⟩ _).trans HG4.out),?_⟩
   rw [takeB_some H0.out HP0.out]
   exact ⟨rfl,HRD4.out⟩
set_option maxHeartbeats 1000000 in
theorem g_kind (x : List UInt8) (w : World) :
  Calls Tryz.prog 161 #[.string (bsOf x)] w (BoolBel (decide (0 < kindB x)) w):=by
 by_cases h:0 < kindB x
 ·have e:decide (0 < kindB x)=true:=by simpa using h
  have E:=Lib.hid e
  rw [e]
  clear e
  go_enter Tryz.func161,Tryz.ntmps161
  go_wp2_with (go_at_call 159; refine (f_kindOf (bsOf x) _).mono ?_; rintro e w1 ⟨rfl,hb⟩; rw [blOf_bsOf])
  go_ret
  exact ⟨by first | rfl | (show Ending.returned (.bool (decide (0 < kindB x)))=_; rw [E.out]),hb⟩
 ·have e:decide (0 < kindB x)=false:=by simpa using h
  have E:=Lib.hid e
  rw [e]
  clear e
  go_enter Tryz.func161,Tryz.ntmps161
  go_wp2_with (go_at_call 159; refine (f_kindOf (bsOf x) _).mono ?_; rintro e w1 ⟨rfl,hb⟩; rw [blOf_bsOf])
  go_ret
  exact ⟨by first | rfl | (show Ending.returned (.bool (decide (0 < kindB x)))=_; rw [E.out]),hb⟩
set_option maxHeartbeats 1000000 in
theorem g_quote (x : List UInt8) (w : World) (hx : x ≠ []) :
  Calls Tryz.prog 165 #[.string (bsOf x)] w (BoolBel (x.headD 0 == 34) w):=by
 have hsz:=bsOf_data' x
 have hpos:0 < (bsOf x).size:=by rw [hsz]; exact List.length_pos_iff.2 hx
 have hg:(bsOf x)[0]=x.headD 0:=by
  have:=blOf_get (bsOf x) 0 hpos
  rw [blOf_bsOf] at this
  rw [← this,headD_get]
 have HG:=Lib.hid hg
 clear hsz hg
 by_cases h:x.headD 0=34
 ·have e:(x.headD 0 == 34)=true:=by simpa using h
  have t1:((((bsOf x)[0]).toNat:Int) == 34)=true:=by rw [HG.out,h]; rfl
  rw [e]
  clear e
  go_enter Tryz.func165,Tryz.ntmps165
  go_wp2_with fail
  go_ret
  exact ⟨rfl,Below.refl _ _⟩
 ·have e:(x.headD 0 == 34)=false:=by simpa using h
  have t1:((((bsOf x)[0]).toNat:Int) == 34)=false:=u8_ne (n:=34) (by decide) (by rw [HG.out]; exact h)
  rw [e]
  clear e
  go_enter Tryz.func165,Tryz.ntmps165
  go_wp2_with fail
  go_ret
  exact ⟨rfl,Below.refl _ _⟩
set_option maxHeartbeats 1000000 in
theorem g_exact (x c : List UInt8) (q : Nat) (w : World) (hc : w.cell? ⟨q,0,none⟩ = some (.string (bsOf c))) :
  Calls Tryz.prog 188 #[.string (bsOf x),.pointer (some ⟨q,0,none⟩)] w (BoolBel (x == c) w):=by
 by_cases h:x=c
 ·have e:(x == c)=true:=by simpa using h
  have t1:=seq_true (show bsOf x=bsOf c by rw [h])
  rw [e]
  clear e h
  go_enter Tryz.func188,Tryz.ntmps188
  go_wp2_with fail
  go_ret
  exact ⟨rfl,Below.refl _ _⟩
 ·have e:(x == c)=false:=by simpa using h
  have t1:((bsOf x).toList == (bsOf c).toList)=false:=seq_false (by rw [blOf_bsOf,blOf_bsOf]; exact h)
  rw [e]
  clear e h
  go_enter Tryz.func188,Tryz.ntmps188
  go_wp2_with fail
  go_ret
  exact ⟨rfl,Below.refl _ _⟩
set_option maxRecDepth 100000 in
set_option maxHeartbeats 1000000 in
theorem g_num (x : List UInt8) (w : World) (hx : x.length ≤ 100000) (hl : ParOk w) :
  Calls Tryz.prog 187 #[.string (bsOf x)] w (BoolBel (numB' x) w):=by
 have hsz:=bsOf_data' x
 have hs1:(bsOf x).size ≤ 100000:=by omega
 have HL:=Lib.hid hl
 clear hl
 rcases hat:Lib.atoiAll x with u | _ | _
 ·have HAT:=Lib.hid hat
  by_cases h3:x.length ≤ 3
  ·have q3:(bsOf x).size ≤ 3:=by omega
   have q4:decide (((bsOf x).size:Int) ≤ 3)=true:=by simp; omega
   by_cases hi:Lib.itoa u=x
   ·have e:numB' x=true:=by unfold numB' isNumB; rw [hat]; simp [h3,hi]
    have t1:((bsOf (Lib.itoa u)).toList == (bsOf x).toList)=true:=seq_true (by rw [hi])
    rw [e]
    clear e hi hat hsz h3
    go_enter Tryz.func187,Tryz.ntmps187
    go_wp2_with fail
    refine (i_Atoi (bsOf x) _ (by omega) HL.out).mono ?_
    rw [blOf_bsOf]
    rintro e w1 (⟨v,hv,rfl,v1,v2,hb⟩ | ⟨hno,-⟩)
    ·obtain rfl:u=v:=by rw [HAT.out] at hv; injection hv
     have HL1:=Lib.hid (HL.out.later hb).tab
     clear hv
     go_wp2_with (go_at_call 78; refine (i_Itoa u _ HL1.out v1 v2).mono ?_; rintro e w2 ⟨rfl,hb2⟩)
     go_ret
     exact ⟨rfl,hb.trans (hb2.mono hb.size)⟩
    ·exact absurd HAT.out (hno u)
   ·have e:numB' x=false:=by unfold numB' isNumB; rw [hat]; simp [h3,hi]
    have t1:((bsOf (Lib.itoa u)).toList == (bsOf x).toList)=false:=seq_false (by rw [blOf_bsOf,blOf_bsOf]; exact hi)
    rw [e]
    clear e hi hat hsz h3
    go_enter Tryz.func187,Tryz.ntmps187
    go_wp2_with fail
    refine (i_Atoi (bsOf x) _ (by omega) HL.out).mono ?_
    rw [blOf_bsOf]
    rintro e w1 (⟨v,hv,rfl,v1,v2,hb⟩ | ⟨hno,-⟩)
    ·obtain rfl:u=v:=by rw [HAT.out] at hv; injection hv
     have HL1:=Lib.hid (HL.out.later hb).tab
     clear hv
     go_wp2_with (go_at_call 78; refine (i_Itoa u _ HL1.out v1 v2).mono ?_; rintro e w2 ⟨rfl,hb2⟩)
     go_ret
     exact ⟨rfl,hb.trans (hb2.mono hb.size)⟩
    ·exact absurd HAT.out (hno u)
  ·have q4:decide (((bsOf x).size:Int) ≤ 3)=false:=by simp; omega
   have e:numB' x=false:=by unfold numB' isNumB; rw [hat]; simp [h3]
   rw [e]
   clear e hat hsz h3
   go_enter Tryz.func187,Tryz.ntmps187
   go_wp2_with fail
   refine (i_Atoi (bsOf x) _ (by omega) HL.out).mono ?_
   rw [blOf_bsOf]
   rintro e w1 (⟨v,hv,rfl,v1,v2,hb⟩ | ⟨hno,-⟩)
   ·clear hv
    go_wp2_with fail
    go_ret
    exact ⟨rfl,hb⟩
   ·exact absurd HAT.out (hno u)
 all_goals
  have e:numB' x=false:=by unfold numB' isNumB; rw [hat]; rfl
  have HAT:=Lib.hid hat
  rw [e]
  clear e hat hsz
  go_enter Tryz.func187,Tryz.ntmps187
  go_wp2_with fail
  refine (i_Atoi (bsOf x) _ (by omega) HL.out).mono ?_
  rw [blOf_bsOf]
  rintro e w1 (⟨v,hv,-⟩ | ⟨hno,v,tp,p,rfl,hb⟩)
  ·rw [HAT.out] at hv; cases hv
  ·clear hno
   go_wp2_with fail
   go_ret
   exact ⟨rfl,hb⟩
end Go.Proofs.YtgdngfdeeadlnaaGreatDoor
